/- What the row rests on, part 5. Conditions: none. -/
import Derived.Test.YtagfconjgajlgaaM4
set_option linter.unusedSimpArgs false
set_option linter.unusedVariables false
set_option maxRecDepth 100000
namespace Go.Sim.Try
open Go Go.Sim
attribute [local push_cast] aops_cons aops_nil aopG_none aopG_some aopP_eq aopE_eq aopC_eq aopE?_eq aopC?_eq aopB_eq aopB?_eq aopN_eq aopN?_eq anxt anext amrange alast amapNil abr anilq gopP_eq gopL_eq ahead_cons ahead_nil ahdG_none ahdG_some ahdP_eq ahdN_eq ahdC_eq ahdN?_eq ahdS_eq ahdS?_eq astoreN ahdC?_eq ghdP_eq ghdC_eq ghdC?_eq ghdZ_f ghdZ_t ahdI_eq ahdI?_eq ghdN?_eq aim_nil aim_cons isIn_nil isIn_none isIn_cons aimm aheP_eq aheA_eq aheC_eq aheC?_eq aheI?_eq aheA?_eq gheP_eq gheC_eq gheC?_eq gheZ_eq aheG_none aheG_some aheff_cons aheff_nil aapp gro_rsl gro_lit gro_esl opt_some opt_none no_eq acondT_true acondT_false acondT_lit abytes bytesU aw_skip aw_region aw_regionD aw_seq aw_cond aw_block aw_loop aw_exit aw_label aw_ret thn_normal thn_exit thn_ret inb_normal inb_exit inb_ret qret_ret qret_normal gcond apure aeff anew acallee ares aresT aresL aresC ares1 qfin_eq ev ofV evL gokL tget tput_some tput_none initT abin aint aun aload afaddr aiaddr afield aindex aextract apick pickv_lit Bool.or_false Bool.false_or Bool.or_true Bool.true_or imp_self aslice chunk roomB abound aconv abuild afill splice alen aminmax abuiltin anil apart Value.oneCell' astore aappend srcEs abuildSlice amakeSlice amapPut aclear aentry aestore alookup aput afind mget keyV sameV_int Option.isSome_some Option.isSome_none cond_true cond_false asets isEq plus_obj plus_nxt plus_add plus_set plus_del IntKind.bits Option.map_some Option.map_none Option.bind_some Option.bind_none Option.join_some Option.getD_some Option.getD_none Option.toList List.getElem?_toArray List.getElem?_cons_zero List.getElem?_cons_succ List.getElem?_nil List.length_cons List.length_nil List.length_map List.head?_cons List.cons_append List.nil_append List.append_nil List.map_cons List.map_nil List.getD_cons_zero List.getD_cons_succ List.replicate_succ List.replicate_zero List.set_cons_zero List.set_cons_succ List.take_succ_cons List.take_zero List.drop_succ_cons List.drop_zero List.all_cons List.all_nil Nat.zero_add if_true if_false true_and and_true false_and and_false true_implies implies_true forall_const Bool.and_true Bool.true_and Bool.false_and Bool.and_false Bool.true_beq Bool.false_beq Bool.not_not beq_tt beq_ff Int.toNat_natCast decide_true decide_false Bool.not_true Bool.not_false Bool.true_eq_false Bool.false_eq_true false_implies exists_prop eq_self bne_self_eq_false beq_self_eq_true decide_eq_true_eq decide_eq_false_iff_not Bool.not_eq_true' Bool.not_eq_false' AV.int AV.bool AV.nilS ne_eq not_false_eq_true not_true_eq_false exists_eq_left exists_eq_left' Nat.lt_irrefl core_lit grd_lit acells_lit one_lit core_agg grd_agg acells_agg one_agg core_tup grd_tup acells_tup one_tup core_sl grd_sl acells_sl one_sl core_esl grd_esl acells_esl one_esl core_rsl grd_rsl acells_rsl one_rsl core_ptr grd_ptr acells_ptr one_ptr core_iptr grd_iptr acells_iptr one_iptr core_clo grd_clo acells_clo one_clo core_mp grd_mp acells_mp one_mp core_any grd_any acells_any one_any core_gv grd_gv fit_agg fit_lit fit_sl fit_esl fit_rsl fit_ptr fit_iptr fit_clo fit_mp retq_ret retq_normal set_nxt set_set plus_obj_set plus_set_set app_get0 app_get app_set0 app_set List.append_assoc List.length_append List.length_set Nat.lt_add_one Nat.add_lt_add_iff_right Nat.lt_add_right_iff_pos Nat.add_lt_add_iff_left List.mem_cons List.not_mem_nil or_false forall_eq forall_eq_or_imp lt_s0 lt_s1 lt_s2 lt_s3 lt_s4 lt_s5 lt_s6 lt_s7 lt_s8 pickv_t pickv_f or_nand or_nand2 imp_and_l SealT SealOs sealO_cells sl_lit sl_any sl_agg sl_tup sl_sl sl_rsl slO sl_esl sl_nil sl_eslesl sl_eslnil sl_rslrsl sl_eslrsl sl_nilrsl sl_ptr sl_iptr sl_ptri slP sl_clo sl_mp sl_gv sll_nil sll_cons slll_nil slll_cons shut_eq shutO Option.join_none Fn.func.injEq and_self sealL_self sealLL_self seal_self PureL PureLL Pure Nat.le_refl Nat.zero_le AV.lit.injEq Value.int.injEq Value.bool.injEq false_or or_true true_or Int.natCast_zero Int.ofNat_zero Int.cast_ofNat_Int Int.natCast_add Int.natCast_one Option.some.injEq piL_is sop_nil sop_cons sop_none sop_some sopO_some sop_new shut_pi shutL_nil shutL_cons exQ_exit exQ_ret exQ_normal Go.Sim.Try.ty_load1 Go.Sim.Try.ty_zero1 Go.Sim.Try.ty_load2 Go.Sim.Try.ty_zero2 Go.Sim.Try.ty_und2 Go.Sim.Try.ty_load3 Go.Sim.Try.ty_zero3 Go.Sim.Try.ty_und3 Go.Sim.Try.ty_load4 Go.Sim.Try.ty_zero4 Go.Sim.Try.ty_und4 Go.Sim.Try.ty_load5 Go.Sim.Try.ty_zero5 Go.Sim.Try.ty_und5 Go.Sim.Try.ty_load9 Go.Sim.Try.ty_zero9 Go.Sim.Try.ty_und9 Go.Sim.Try.ty_load21 Go.Sim.Try.ty_zero21 Go.Sim.Try.ty_und21 Go.Sim.Try.ty_load22 Go.Sim.Try.ty_zero22 Go.Sim.Try.ty_el22 Go.Sim.Try.ty_zeroE22 Go.Sim.Try.ty_load23 Go.Sim.Try.ty_zero23 Go.Sim.Try.ty_el23 Go.Sim.Try.ty_zeroE23 Go.Sim.Try.ty_load25 Go.Sim.Try.ty_zero25 Go.Sim.Try.ty_fld25_0 Go.Sim.Try.ty_part25_0 Go.Sim.Try.ty_fld25_1 Go.Sim.Try.ty_part25_1 Go.Sim.Try.ty_fld25_2 Go.Sim.Try.ty_part25_2 Go.Sim.Try.ty_struct25 Go.Sim.Try.ty_load29 Go.Sim.Try.ty_zero29 Go.Sim.Try.ty_el29 Go.Sim.Try.ty_zeroE29 Go.Sim.Try.ty_load34 Go.Sim.Try.ty_zero34 Go.Sim.Try.ty_und34 Go.Sim.Try.ty_load41 Go.Sim.Try.ty_zero41 Go.Sim.Try.ty_fld41_0 Go.Sim.Try.ty_part41_0 Go.Sim.Try.ty_fld41_1 Go.Sim.Try.ty_part41_1 Go.Sim.Try.ty_fld41_2 Go.Sim.Try.ty_part41_2 Go.Sim.Try.ty_struct41 Go.Sim.Try.ty_load47 Go.Sim.Try.ty_zero47 Go.Sim.Try.ty_el47 Go.Sim.Try.ty_zeroE47 Go.Sim.Try.ty_load55 Go.Sim.Try.ty_zero55 Go.Sim.Try.ty_fld55_0 Go.Sim.Try.ty_part55_0 Go.Sim.Try.ty_fld55_1 Go.Sim.Try.ty_part55_1 Go.Sim.Try.ty_fld55_2 Go.Sim.Try.ty_part55_2 Go.Sim.Try.ty_fld55_3 Go.Sim.Try.ty_part55_3 Go.Sim.Try.ty_struct55 Go.Sim.Try.ty_load56 Go.Sim.Try.ty_zero56 Go.Sim.Try.ty_load58 Go.Sim.Try.ty_zero58 Go.Sim.Try.ty_fld58_0 Go.Sim.Try.ty_part58_0 Go.Sim.Try.ty_fld58_1 Go.Sim.Try.ty_part58_1 Go.Sim.Try.ty_struct58 Go.Sim.Try.ty_load60 Go.Sim.Try.ty_zero60 Go.Sim.Try.ty_load67 Go.Sim.Try.ty_zero67 Go.Sim.Try.ty_el67 Go.Sim.Try.ty_zeroE67 Go.Sim.Try.ty_load68 Go.Sim.Try.ty_zero68 Go.Sim.Try.ty_und68 Go.Sim.Try.ty_vzero58 Go.Sim.Try.ty_load72 Go.Sim.Try.ty_zero72 Go.Sim.Try.ty_el72 Go.Sim.Try.ty_zeroE72 Go.Sim.Try.ty_load79 Go.Sim.Try.ty_zero79 Go.Sim.Try.ty_load80 Go.Sim.Try.ty_zero80 Go.Sim.Try.ty_und80 Go.Sim.Try.ty_vzero4 Go.Sim.Try.ty_load82 Go.Sim.Try.ty_zero82 Go.Sim.Try.ty_fld82_0 Go.Sim.Try.ty_part82_0 Go.Sim.Try.ty_fld82_1 Go.Sim.Try.ty_part82_1 Go.Sim.Try.ty_fld82_2 Go.Sim.Try.ty_part82_2 Go.Sim.Try.ty_struct82 Go.Sim.Try.ty_load86 Go.Sim.Try.ty_zero86 Go.Sim.Try.ty_und86 Go.Sim.Try.ty_vzero3 Go.Sim.Try.ty_load87 Go.Sim.Try.ty_zero87 Go.Sim.Try.ty_arr87 Go.Sim.Try.ty_part87_0 Go.Sim.Try.ty_part87_1 Go.Sim.Try.ty_struct87 Go.Sim.Try.ty_load98 Go.Sim.Try.ty_zero98 Go.Sim.Try.ty_und98 Go.Sim.Try.ty_load100 Go.Sim.Try.ty_zero100 Go.Sim.Try.ty_und100 Go.Sim.Try.ty_el100 Go.Sim.Try.ty_zeroE100 Go.Sim.Try.ty_load104 Go.Sim.Try.ty_zero104 Go.Sim.Try.ty_load109 Go.Sim.Try.ty_zero109 Go.Sim.Try.ty_load112 Go.Sim.Try.ty_zero112 Go.Sim.Try.ty_und112 Go.Sim.Try.ty_load119 Go.Sim.Try.ty_zero119 Go.Sim.Try.ty_und119 Go.Sim.Try.ty_load121 Go.Sim.Try.ty_zero121 Go.Sim.Try.ty_und121 Go.Sim.Try.ty_load129 Go.Sim.Try.ty_zero129 Go.Sim.Try.ty_und129 Go.Sim.Try.ty_load133 Go.Sim.Try.ty_zero133
section
attribute [local push_cast] encIs_pure encNs_pure encJs_pure encN_eq encM_eq encJ_eq plus_obj0 plus_set0 piL_is00 piL_is0 piL_isk encIs_one encNs_four encJs_three
def runC (m : Mm) (d : Nat) (picks : List Int) : AObj := .cells 5 [[.sl (m.N.map encN), .sl (m.G.map encI), .sl (m.P.map encI), .mp d, .sl (picks.map encI)]] 0
theorem runC_eq (m : Mm) (d : Nat) (picks : List Int) : runC m d picks = .cells 5 [[.sl (m.N.map encN), .sl (m.G.map encI), .sl (m.P.map encI), .mp d, .sl (picks.map encI)]] 0 := rfl
theorem scoped_run {n : Nat} (m : Mm) {d : Nat} (picks : List Int) (h : d < n) : ScopedO n (runC m d picks) := by
  refine ⟨?_, by simp, by simp⟩
  simp only [ScopedLL, ScopedL, Scoped, and_true]
  exact ⟨scopedLL_pure _ _ (encNs_pure _), scopedLL_pure _ _ (encIs_pure _), scopedLL_pure _ _ (encIs_pure _), h, scopedLL_pure _ _ (encIs_pure _)⟩
set_option maxHeartbeats 4000000 in
theorem Next_ok (i d : Nat) (hid : i ≠ d) (m : Mm) (hf : m.form = true) (done : List Jb) (picks : List Int) (hpk : picks.length ≤ 1000000) (H : AH) (hR : RunH i d m done picks H) :
    ACalls Go.Proofs.Try.prog 55 [.ptr i 5 0 0] H (fun r H' => r = .tup [.agg (encJ (nextJ m done picks).1), .bool (nextJ m done picks).2.1] ∧ H' = H.set i (runC m d (nextJ m done picks).2.2)) := by
  have hR0 := hR
  obtain ⟨h1, h2, h3, h4⟩ := hR
  refine acalls_sc (rs := #[.cell 2 41, .tmp 3]) Go.Proofs.Try.func55 rfl rfl rfl mixed rfl (Nat.le_of_ble_eq_true rfl) fun hs _ => ?_
  have hoi : ∀ m', (H.plus m').obj i = _ := fun m' => (plus_low H m' h3).trans h1
  have hod : ∀ m', (H.plus m').obj d = _ := fun m' => (plus_low H m' h4).trans h2
  have hset : ∀ m' o, (H.plus m').set i o = (H.set i o).plus m' := fun m' o => plus_setlow H m' h3 o
  have hnx : nextJ m done picks = if leftJ m done = [] then (jobD, false, picks) else ((leftJ m done).getD (pickAt picks (leftJ m done).length) jobD, true, picks.drop 1) := rfl
  have hjl := jobs0_len ((form_def m).1 hf).2.2.1
  generalize nextJ m done picks = r at hnx ⊢
  push_cast -implicitDefEqProofs [eq_self, iff_self, hoi]
  refine (Jobs0_ok m hf _).mono ?_
  rintro r0 H' ⟨rfl, rfl⟩
  push_cast -implicitDefEqProofs [eq_self, iff_self, plus_plus, Nat.add_zero]
  refine fzk H 0 1 [.rsl (H.nxt + 2) 3 0 m.jobs0.length, .clo (.func 88) [] [.iptr [.ptr i 5 0 0]]] rfl (by omega) (by simp) ?_ ?_
  · (try push_cast -implicitDefEqProofs [eq_self, iff_self])
    omega
  have hdel := fun l => DeleteJ_ok (p := fun x => done.any fun j => eqJ x j) (fn := 88) (caps := [.iptr [.ptr i 5 0 0]]) (Hs := RunH i d m done picks) m.jobs0 (by omega) (H.nxt + 2) (H.plus ([some (.cells 1 [[.ptr i 5 0 0]] 1), some (.cells 3 [[.bool false, .int 0, .int 0]] 0), some (.cells 3 (m.jobs0.map encJ) 0)] ++ l)) (by rw [plus_obj]; rfl) (by simp only [plus_nxt, List.length_append, List.length_cons]; omega)
    (by simp only [ScopedL, Scoped, plus_nxt, and_true]; omega) (Done_cb i d m done picks) (runH_plus hR0 _) (fun H l h => runH_plus h l) (fun H' o ⟨k1, k2, k3, k4⟩ => ⟨by rw [set_off _ _ (by omega)]; exact k1, by rw [set_off _ _ (by omega)]; exact k2, k3, k4⟩)
  have hdel0 := hdel []
  rw [List.append_nil] at hdel0
  push_cast -implicitDefEqProofs [eq_self, iff_self]
  refine ACalls.mono hdel0 ?_
  rintro r1 H1 ⟨rfl, rfl⟩
  have hlf : (m.jobs0.filter fun x => !(done.any fun j => eqJ x j)) = leftJ m done := rfl
  have hkr : keptRows (fun x => done.any fun j => eqJ x j) m.jobs0 = (leftJ m done).map encJ ++ List.replicate (m.jobs0.length - (leftJ m done).length) (encJ jb0) := rfl
  have hll : (leftJ m done).length ≤ m.jobs0.length := List.length_filter_le _ _
  rw [hlf, hkr]
  generalize leftJ m done = L at hnx hll ⊢
  have hW1 : (∀ e ∈ List.replicate (m.jobs0.length - L.length) (encJ jb0), e.length = 3) = True := eq_true fun e he => by rw [(List.mem_replicate.1 he).2]; rfl
  generalize List.replicate (m.jobs0.length - L.length) (encJ jb0) = W at hW1 ⊢
  push_cast -implicitDefEqProofs [eq_self, iff_self]
  by_cases hL : L = []
  · subst hL
    rw [if_pos rfl] at hnx
    subst hnx
    push_cast -implicitDefEqProofs [eq_self, iff_self, List.length_nil, Int.natCast_zero]
    refine retp (l' := []) hs [] (.tup [.agg (encJ jobD), .bool false]) trivial ⟨rfl, by rw [plus_nil hs, runC_eq, set_as h1]⟩ rfl ?_ ?_
    · (try push_cast -implicitDefEqProofs [eq_self, iff_self, jobD])
    · (try push_cast -implicitDefEqProofs [eq_self, iff_self])
  · have hL1 : 0 < L.length := List.length_pos_iff.2 hL
    have hL' : ((L.length : Int) = 0) = False := eq_false (by omega)
    rw [if_neg hL] at hnx
    have hpl : pickAt picks L.length < L.length := pickAt_lt hL1
    have hrow : (L.map encJ ++ W).getD (pickAt picks L.length) [] = encJ (L.getD (pickAt picks L.length) jobD) := by
      rw [List.getD_eq_getElem?_getD, List.getElem?_append_left (by simpa using hpl), List.getElem?_map, List.getElem?_eq_getElem hpl, List.getD_eq_getElem?_getD, List.getElem?_eq_getElem hpl]; rfl
    cases picks with
    | nil =>
      have hpa : pickAt [] L.length = 0 := rfl
      generalize pickAt [] L.length = at0 at hnx hpl hpa hrow
      subst hnx hpa
      have hL2 : (0 < (L.length : Int)) = True := eq_true (by omega)
      push_cast -implicitDefEqProofs [eq_self, iff_self, hL', hL2, hoi, hrow, List.length_nil, Int.natCast_zero, List.map_nil]
      refine ⟨by omega, retp (l' := []) hs [] (.tup [.agg (encJ (L.getD 0 jobD)), .bool true]) trivial ⟨rfl, by rw [plus_nil hs, runC_eq]; exact (set_as h1).symm⟩ rfl ?_ ?_⟩
      · (try push_cast -implicitDefEqProofs [eq_self, iff_self])
      · (try push_cast -implicitDefEqProofs [eq_self, iff_self])
    | cons x ps =>
      have hpa : (pickAt (x :: ps) L.length : Int) = max x 0 % (L.length : Int) := by
        have h1 := Int.emod_nonneg (max x 0) (show (L.length : Int) ≠ 0 by omega)
        show ((max x 0 % (L.length : Int)).toNat : Int) = _
        omega
      generalize pickAt (x :: ps) L.length = at0 at hnx hpl hpa hrow
      subst hnx
      have hx0 : (x :: ps).map encI = encI x :: ps.map encI := rfl
      have hp2 : (0 < (ps.length : Int) + 1) = True := eq_true (by omega)
      push_cast -implicitDefEqProofs [eq_self, iff_self, hL', hoi, List.length_cons, hx0, List.getD_cons_zero, encI, hp2]
      refine areg_link 6 (by kernel_rfl) (by kernel_rfl) ?_
      have htm : (if 0 > x then 0 else x).tmod (L.length : Int) = (at0 : Int) := by
        rw [Int.tmod_eq_emod_of_nonneg (by split <;> omega), hpa]
        congr 1
        split <;> omega
      have hat2 : (0 ≤ (at0 : Int)) = True := by simp
      have hat3 := inb_true hpl
      have hS1 : ∀ o l k, ((H.set i o).plus l).obj (H.nxt + k) = (l[k]?).join := fun o l k => plus_obj (H.set i o) l k
      have hS2 : ∀ o l k o', k < l.length → ((H.set i o).plus l).set (H.nxt + k) o' = (H.set i o).plus (l.set k (some o')) := fun o l k o' hk => plus_set (H.set i o) l k o' hk
      push_cast -implicitDefEqProofs [eq_self, iff_self, hoi, hx0, List.length_cons, encI, htm, hat2, hat3, hset, hS1, hS2, hrow]
      have hdr : List.drop 1 (List.take ((ps.length : Int) + 1).toNat ([AV.lit (.int .i64 x)] :: ps.map encI)) = ps.map encI := by
        rw [List.take_of_length_le (by simp)]; rfl
      rw [hdr]
      have hs2 : HSc (H.set i (runC m d ps)) := hsc_set hs h3 (scoped_run m ps h4)
      refine ⟨by omega, by omega, retb (D := H.set i (runC m d ps)) (l' := []) hs2 rfl [] (.tup [.agg (encJ (L.getD at0 jobD)), .bool true]) rfl trivial ⟨rfl, by rw [plus_nil hs2]⟩ rfl ?_ ?_⟩
      · (try push_cast -implicitDefEqProofs [eq_self, iff_self])
      · (try push_cast -implicitDefEqProofs [eq_self, iff_self])
end
section
attribute [local push_cast] encIs_pure encNs_pure encJs_pure encN_eq encM_eq encJ_eq plus_obj0 plus_set0 piL_is00 piL_is0 piL_isk encIs_one encNs_four encJs_three
def stepT (f : Nat) (m : Mm) (done : List Jb) (x : Jb × Bool × List Int) : Mm × Int × Int :=
  if x.2.1 then (if (m.do0 x.1).2 = 0 then runF f (m.do0 x.1).1 (done ++ [x.1]) x.2.2 else (m, done.length, (m.do0 x.1).2)) else (m, done.length, 0)
theorem runF_step (f : Nat) (m : Mm) (done : List Jb) (picks : List Int) : runF (f + 1) m done picks = stepT f m done (nextJ m done picks) := rfl
structure RnS where
  m : Mm
  done : List Jb
  pk : List Int
  j : Jb
  b : Bool
  f : Nat
def rnInv (t : Mm × Int × Int) (s : RnS) : Prop := s.m.form = true ∧ s.done.Nodup ∧ (∀ j ∈ s.done, okJob j) ∧ s.pk.length ≤ 1000000 ∧ t = stepT s.f s.m s.done (s.j, s.b, s.pk) ∧ (s.b = true → s.j ∈ leftJ s.m s.done) ∧ 320000 ≤ s.f + s.done.length
theorem next_len (m : Mm) (done : List Jb) (picks : List Int) : (nextJ m done picks).2.2.length ≤ picks.length := by
  unfold nextJ
  split
  · exact Nat.le_refl _
  · simp
theorem rn_first {m : Mm} (hf : m.form = true) {picks : List Int} (hp : picks.length ≤ 1000000) : rnInv (runF 320001 m [] picks) ⟨m, [], (nextJ m [] picks).2.2, (nextJ m [] picks).1, (nextJ m [] picks).2.1, 320000⟩ :=
  ⟨hf, List.nodup_nil, (fun _ h => by cases h), Nat.le_trans (next_len m [] picks) hp, runF_step 320000 m [] picks, next_left, Nat.le_refl _⟩
theorem rn_next {t : Mm × Int × Int} {s : RnS} (h : rnInv t s) (hb : s.b = true) (he : (s.m.do0 s.j).2 = 0) : ∃ f, s.f = f + 1 ∧
    rnInv t ⟨(s.m.do0 s.j).1, s.done ++ [s.j], (nextJ (s.m.do0 s.j).1 (s.done ++ [s.j]) s.pk).2.2, (nextJ (s.m.do0 s.j).1 (s.done ++ [s.j]) s.pk).1, (nextJ (s.m.do0 s.j).1 (s.done ++ [s.j]) s.pk).2.1, f⟩ := by
  obtain ⟨h1, h2, h3, h4, h5, h6, h7⟩ := h
  have hj := h6 hb
  have hjo := left_ok h1 hj
  have hjd := (mem_left.1 hj).2
  have hn : (s.done ++ [s.j]).Nodup := by
    rw [List.nodup_append]
    exact ⟨h2, by simp, fun x hx y hy => by obtain rfl := List.mem_singleton.1 hy; exact fun e => hjd (e ▸ hx)⟩
  have ho : ∀ j ∈ s.done ++ [s.j], okJob j := fun j hj2 => by
    rcases List.mem_append.1 hj2 with hx | hx
    · exact h3 j hx
    · obtain rfl := List.mem_singleton.1 hx; exact hjo
  have hlen := done_few hn ho
  rw [List.length_append, List.length_cons, List.length_nil] at hlen
  refine ⟨s.f - 1, by omega, do0_form h1 _, hn, ho, Nat.le_trans (next_len _ _ _) h4, ?_, next_left, ?_⟩
  · rw [h5, stepT]
    dsimp only
    rw [hb, if_pos rfl, if_pos he, ← runF_step, show s.f - 1 + 1 = s.f by omega]
  · dsimp only
    rw [List.length_append, List.length_cons, List.length_nil]
    omega
theorem mod_push {α : Type} (f : α → α) (x : α) : ∀ l : List α, (l ++ [x]).modify l.length f = l ++ [f x]
  | [] => rfl
  | y :: l => by rw [List.cons_append, List.length_cons, List.modify_succ_cons, mod_push f x l]; rfl
theorem done_push (l : List Jb) (j : Jb) : (doneKV l ++ [(keyJ j, AV.bool false)]).modify l.length (fun p => (p.1, AV.bool true)) = doneKV (l ++ [j]) := by
  have := mod_push (fun p : Value × AV => (p.1, AV.bool true)) (keyJ j, AV.bool false) (doneKV l)
  rw [show (doneKV l).length = l.length by rw [doneKV, List.length_map]] at this
  rw [this, doneKV, doneKV, List.map_append]; rfl
theorem doneKV_len (l : List Jb) : (doneKV l).length = l.length := by rw [doneKV, List.length_map]
theorem sealO_run (π : Nat → Option Nat) (H H' : AH) (m : Mm) (d d' : Nat) (picks : List Int) : SealO π H H' (runC m d picks) (runC m d' picks) = (π d' = some d ∧ d' < H'.nxt) := by
  rw [runC_eq, runC_eq]
  refine propext ⟨fun h => ?_, fun h => ?_⟩
  · obtain ⟨es, fz, he, h1, _⟩ := h
    injection he with _ he _
    subst he
    simp only [SealLL, SealL, Seal] at h1
    obtain ⟨⟨_, _, _, ⟨k, k1, k2, k3⟩, _⟩, _⟩ := h1
    injection k2 with k2
    subst k2
    exact ⟨k1, k3⟩
  · refine ⟨_, 0, rfl, ?_, by simp, Nat.le_refl _, Nat.zero_le _⟩
    simp only [SealLL, SealL, Seal, and_true]
    exact ⟨sealLL_pure _ _ _ (encNs_pure _), sealLL_pure _ _ _ (encIs_pure _), sealLL_pure _ _ _ (encIs_pure _), ⟨d, h.1, rfl, h.2⟩, sealLL_pure _ _ _ (encIs_pure _)⟩
theorem run_cut (m : Mm) (picks : List Int) : m.run picks = if m.may then runF 320001 m [] picks else (m, 0, 1) := rfl
set_option maxHeartbeats 4000000 in
theorem Run_ok (m : Mm) (hm : m.Small) (picks : List Int) (hpk : picks.length ≤ 1000000) : Quiet Go.Proofs.Try.prog 18 [encM m, .sl (picks.map encI)] (.tup [encM (m.run picks).1, .int (m.run picks).2.1, .int (m.run picks).2.2]) := by
  refine quiet_of (rs := #[.cell 4 25, .tmp 5, .tmp 6]) Go.Proofs.Try.func18 rfl rfl rfl mixed rfl rfl fun H hs => ?_
  have hrun := run_cut m picks
  generalize m.run picks = t at hrun ⊢
  push_cast -implicitDefEqProofs [eq_self, iff_self]
  refine callq (MayM_ok m hm) ?_
  cases hmay : m.may with
  | false =>
    rw [hmay, if_neg (by decide)] at hrun
    subst hrun
    push_cast -implicitDefEqProofs [eq_self, iff_self]
    refine callq (OwnG_q m hm) ?_
    push_cast -implicitDefEqProofs [eq_self, iff_self]
  | true =>
    rw [hmay, if_pos rfl] at hrun
    have hf := may_form hmay
    have hfirst := rn_first hf hpk
    rw [← hrun] at hfirst
    clear hrun
    push_cast -implicitDefEqProofs [eq_self, iff_self]
    refine callq (OwnG_q m hm) ?_
    push_cast -implicitDefEqProofs [eq_self, iff_self]
    have hnx := fun l => Next_ok (H.nxt + 3) (H.nxt + 2) (by omega) m hf [] picks hpk (H.plus ([some (.cells 3 [[.sl (m.N.map encN), .sl (m.G.map encI), .sl (m.P.map encI)]] 0), some (.cells 3 [[.nilS, .nilS, .nilS]] 0), some (.amap (doneKV [])), some (runC m (H.nxt + 2) picks)] ++ l)) ⟨by rw [plus_obj]; rfl, by rw [plus_obj]; rfl, by rw [plus_nxt]; simp, by rw [plus_nxt]; simp⟩
    have hnx0 := hnx []
    clear hnx
    refine ACalls.mono hnx0 ?_
    rintro r H' ⟨rfl, rfl⟩
    generalize nextJ m [] picks = x at hfirst ⊢
    obtain ⟨j, b, pk⟩ := x
    push_cast -implicitDefEqProofs [eq_self, iff_self]
    refine loop_at hs (σ := RnS) (rnInv t) (fun s => s.f)
      (fun s => [(10, .bool s.b), (9, .ptr (H.nxt + 4) 3 0 0), (8, .clo (.func 55) [.ptr (H.nxt + 3) 5 0 0] []), (7, .ptr (H.nxt + 3) 5 0 0), (4, .ptr (H.nxt + 1) 3 0 0)])
      (fun s => [none, some (.cells 3 [[.nilS, .nilS, .nilS]] 0), some (.amap (doneKV s.done)), some (runC s.m (H.nxt + 2) s.pk), some (.cells 3 [encJ s.j] 0)]) [none, some 1, some 2, some 3, some 4] ⟨m, [], pk, j, b, 320000⟩ hfirst rfl ?_ ?_ ?_
    · (try push_cast -implicitDefEqProofs [eq_self, iff_self])
    · (try push_cast -implicitDefEqProofs [eq_self, iff_self, sealO_done, sealO_run])
    clear hfirst hnx0 hf hmay hm hpk
    rintro ⟨m1, dn, pk, j, b, f⟩ hinv
    have hin := hinv
    obtain ⟨k1, k2, k3, k4, k5, k6, k7⟩ := hinv
    dsimp only at k1 k2 k3 k4 k5 k6 k7 ⊢
    have hsm := form_small k1
    cases b with
    | false =>
      rw [stepT] at k5
      dsimp only at k5
      rw [if_neg Bool.false_ne_true] at k5
      subst k5
      rw [runC_eq]
      push_cast -implicitDefEqProofs [eq_self, iff_self]
      refine areg_link 9 (by kernel_rfl) (by kernel_rfl) ?_
      push_cast -implicitDefEqProofs [eq_self, iff_self, doneKV_len]
      exact ⟨_, _, rfl⟩
    | true =>
      have hj := k6 rfl
      have hjm := (mem_left.1 hj).1
      have hjd := (mem_left.1 hj).2
      have hpl := job_places hjm
      have hdo := Do0_ok m1 hsm ((form_def m1).1 k1).2.1 j ⟨hpl.1, hpl.2.1⟩ hpl.2.2
      have hqf : (m1.do0 j).1.form = true := do0_form k1 j
      have hdl := doneKV_len dn
      have hnext := rn_next hin rfl
      dsimp only at hnext
      rw [stepT, if_pos rfl] at k5
      dsimp only at k5
      generalize m1.do0 j = q at hdo hqf k5 hnext
      rw [runC_eq]
      push_cast -implicitDefEqProofs [eq_self, iff_self]
      refine areg_at 12 (by kernel_rfl) (by kernel_rfl) ?_
      push_cast -implicitDefEqProofs [eq_self, iff_self]
      refine ahdq hdo ?_
      push_cast -implicitDefEqProofs [eq_self, iff_self]
      by_cases he : q.2 = 0
      · have he' : (q.2 = 0) = True := eq_true he
        have hany : (dn.any fun k => eqJ j k) = false := by
          rw [List.any_eq_false]; exact fun k hk h => hjd (eqJ_iff.1 h ▸ hk)
        have hfa := findAtJ j dn
        have hkn : kidx (keyJ j) (dn.map keyJ) = none := by
          rw [← doneKV_keys]
          exact kidx_none (by rw [doneKV_find, hany]; rfl)
        have hmod := done_push dn j
        have hdl2 : ((dn.length : Int) < ((doneKV dn).length : Int) + 1) = True := eq_true (by omega)
        obtain ⟨f, rfl, hnx⟩ := hnext he
        push_cast -implicitDefEqProofs [eq_self, iff_self, he']
        refine .inl (areg_ord (fun D => if D 12 = true then H.plus [none, some (.cells 3 [[.nilS, .nilS, .nilS]] 0), some (.amap (doneKV (dn ++ [j]))), some (.cells 5 [[.sl (q.1.N.map encN), .sl (q.1.G.map encI), .sl (q.1.P.map encI), .mp (H.nxt + 2), .sl (pk.map encI)]] 0), some (.cells 3 [encJ j] 0), some (.cells 3 [[.sl (q.1.N.map encN), .sl (q.1.G.map encI), .sl (q.1.P.map encI)]] 0)] else if D 10 = true then H.plus [none, some (.cells 3 [[.nilS, .nilS, .nilS]] 0), some (.amap (doneKV dn ++ [(keyJ j, AV.bool false)])), some (.cells 5 [[.sl (q.1.N.map encN), .sl (q.1.G.map encI), .sl (q.1.P.map encI), .mp (H.nxt + 2), .sl (pk.map encI)]] 0), some (.cells 3 [encJ j] 0), some (.cells 3 [[.sl (q.1.N.map encN), .sl (q.1.G.map encI), .sl (q.1.P.map encI)]] 0)] else if D 9 = true then H.plus [none, some (.cells 3 [[.nilS, .nilS, .nilS]] 0), some (.amap (doneKV dn)), some (.cells 5 [[.sl (q.1.N.map encN), .sl (q.1.G.map encI), .sl (q.1.P.map encI), .mp (H.nxt + 2), .sl (pk.map encI)]] 0), some (.cells 3 [encJ j] 0), some (.cells 3 [[.sl (q.1.N.map encN), .sl (q.1.G.map encI), .sl (q.1.P.map encI)]] 0)] else H.plus [none, some (.cells 3 [[.nilS, .nilS, .nilS]] 0), some (.amap (doneKV dn)), some (.cells 5 [[.sl (m1.N.map encN), .sl (m1.G.map encI), .sl (m1.P.map encI), .mp (H.nxt + 2), .sl (pk.map encI)]] 0), some (.cells 3 [encJ j] 0), some (.cells 3 [[.sl (q.1.N.map encN), .sl (q.1.G.map encI), .sl (q.1.P.map encI)]] 0)]) (fun k => [AV.ptr (H.nxt + 3) 5 0 0, AV.ptr (H.nxt + 3) 5 0 0, AV.ptr (H.nxt + 3) 5 0 0, AV.ptr (H.nxt + 3) 5 0 3, AV.mp (H.nxt + 2), AV.agg (encJ j), AV.agg [.sl (q.1.N.map encN), .sl (q.1.G.map encI), .sl (q.1.P.map encI)], AV.ptr (H.nxt + 3) 5 0 0, AV.ptr (H.nxt + 3) 5 0 0, AV.any, AV.tup [.bool false, .int dn.length], AV.int dn.length, AV.any].getD k .any) (by kernel_rfl) (by kernel_rfl) ?_ ?_)
        · intro i0 o T D C ho hDi hdep hclo hT hC
          have hc : i0 = 0 ∨ i0 = 1 ∨ i0 = 2 ∨ i0 = 3 ∨ i0 = 4 ∨ i0 = 5 ∨ i0 = 6 ∨ i0 = 7 ∨ i0 = 8 ∨ i0 = 9 ∨ i0 = 10 ∨ i0 = 11 ∨ i0 = 12 := by
            have := (Array.getElem?_eq_some_iff.1 ho).1
            simp only [List.size_toArray, List.length_cons, List.length_nil] at this
            omega
          have t7 := hT.low 7 rfl
          have t9 := hT.low 9 rfl
          have t11 := hT.low 11 rfl
          try dsimp only at hC ⊢
          rcases hc with rfl | rfl | rfl | rfl | rfl | rfl | rfl | rfl | rfl | rfl | rfl | rfl | rfl
          all_goals
            simp only [List.getElem?_toArray, List.getElem?_cons_zero, List.getElem?_cons_succ, Option.some.injEq] at ho
            subst ho
          · skip
            have e9 : D 9 = false := by
              cases h : D 9 with
              | false => rfl
              | true =>
                have h2 := (hclo 9 _ rfl h 0 rfl)
                rw [hDi] at h2
                cases h2
            have e10 : D 10 = false := by
              cases h : D 10 with
              | false => rfl
              | true =>
                have h2 := (hclo 10 _ rfl h 0 rfl)
                rw [hDi] at h2
                cases h2
            have e12 : D 12 = false := by
              cases h : D 12 with
              | false => rfl
              | true =>
                have h2 := (hclo 12 _ rfl h 0 rfl)
                rw [hDi] at h2
                cases h2
            rw [if_neg (by rw [e12]; decide)]
            rw [if_neg (by rw [e10]; decide)]
            rw [if_neg (by rw [e9]; decide)]
            rw [if_neg (by rw [show addD D 0 12 = D 12 from rfl, e12]; decide)] at hC
            rw [if_neg (by rw [show addD D 0 10 = D 10 from rfl, e10]; decide)] at hC
            rw [if_neg (by rw [show addD D 0 9 = D 9 from rfl, e9]; decide)] at hC
            push_cast -implicitDefEqProofs [eq_self, iff_self, t7, t9, t11, hdl, List.getD_cons_zero, List.getD_cons_succ, List.length_cons, List.length_nil]
            exact hC
          · skip
            have e9 : D 9 = false := by
              cases h : D 9 with
              | false => rfl
              | true =>
                have h2 := (hclo 2 _ rfl (hclo 3 _ rfl (hclo 4 _ rfl (hclo 9 _ rfl h 4 rfl) 3 rfl) 2 rfl) 1 rfl)
                rw [hDi] at h2
                cases h2
            have e10 : D 10 = false := by
              cases h : D 10 with
              | false => rfl
              | true =>
                have h2 := (hclo 2 _ rfl (hclo 3 _ rfl (hclo 4 _ rfl (hclo 10 _ rfl h 4 rfl) 3 rfl) 2 rfl) 1 rfl)
                rw [hDi] at h2
                cases h2
            have e12 : D 12 = false := by
              cases h : D 12 with
              | false => rfl
              | true =>
                have h2 := (hclo 12 _ rfl h 1 rfl)
                rw [hDi] at h2
                cases h2
            rw [if_neg (by rw [e12]; decide)]
            rw [if_neg (by rw [e10]; decide)]
            rw [if_neg (by rw [e9]; decide)]
            rw [if_neg (by rw [show addD D 1 12 = D 12 from rfl, e12]; decide)] at hC
            rw [if_neg (by rw [show addD D 1 10 = D 10 from rfl, e10]; decide)] at hC
            rw [if_neg (by rw [show addD D 1 9 = D 9 from rfl, e9]; decide)] at hC
            push_cast -implicitDefEqProofs [eq_self, iff_self, t7, t9, t11, hdl, List.getD_cons_zero, List.getD_cons_succ, List.length_cons, List.length_nil]
            exact hC
          · skip
            have d1 := hT.put 1 59 (hdep 1 rfl) rfl
            have e9 : D 9 = false := by
              cases h : D 9 with
              | false => rfl
              | true =>
                have h2 := (hclo 3 _ rfl (hclo 4 _ rfl (hclo 9 _ rfl h 4 rfl) 3 rfl) 2 rfl)
                rw [hDi] at h2
                cases h2
            have e10 : D 10 = false := by
              cases h : D 10 with
              | false => rfl
              | true =>
                have h2 := (hclo 3 _ rfl (hclo 4 _ rfl (hclo 10 _ rfl h 4 rfl) 3 rfl) 2 rfl)
                rw [hDi] at h2
                cases h2
            have e12 : D 12 = false := by
              cases h : D 12 with
              | false => rfl
              | true =>
                have h2 := (hclo 12 _ rfl h 2 rfl)
                rw [hDi] at h2
                cases h2
            rw [if_neg (by rw [e12]; decide)]
            rw [if_neg (by rw [e10]; decide)]
            rw [if_neg (by rw [e9]; decide)]
            rw [if_neg (by rw [show addD D 2 12 = D 12 from rfl, e12]; decide)] at hC
            rw [if_neg (by rw [show addD D 2 10 = D 10 from rfl, e10]; decide)] at hC
            rw [if_neg (by rw [show addD D 2 9 = D 9 from rfl, e9]; decide)] at hC
            push_cast -implicitDefEqProofs [eq_self, iff_self, t7, t9, t11, hdl, d1, List.getD_cons_zero, List.getD_cons_succ, List.length_cons, List.length_nil]
            exact hC
          · skip
            have d2 := hT.put 2 60 (hdep 2 rfl) rfl
            have e9 : D 9 = false := by
              cases h : D 9 with
              | false => rfl
              | true =>
                have h2 := (hclo 4 _ rfl (hclo 9 _ rfl h 4 rfl) 3 rfl)
                rw [hDi] at h2
                cases h2
            have e10 : D 10 = false := by
              cases h : D 10 with
              | false => rfl
              | true =>
                have h2 := (hclo 4 _ rfl (hclo 10 _ rfl h 4 rfl) 3 rfl)
                rw [hDi] at h2
                cases h2
            have e12 : D 12 = false := by
              cases h : D 12 with
              | false => rfl
              | true =>
                have h2 := (hclo 12 _ rfl h 3 rfl)
                rw [hDi] at h2
                cases h2
            rw [if_neg (by rw [e12]; decide)]
            rw [if_neg (by rw [e10]; decide)]
            rw [if_neg (by rw [e9]; decide)]
            rw [if_neg (by rw [show addD D 3 12 = D 12 from rfl, e12]; decide)] at hC
            rw [if_neg (by rw [show addD D 3 10 = D 10 from rfl, e10]; decide)] at hC
            rw [if_neg (by rw [show addD D 3 9 = D 9 from rfl, e9]; decide)] at hC
            push_cast -implicitDefEqProofs [eq_self, iff_self, t7, t9, t11, hdl, d2, List.getD_cons_zero, List.getD_cons_succ, List.length_cons, List.length_nil]
            exact hC
          · skip
            have d3 := hT.put 3 61 (hdep 3 rfl) rfl
            have e9 : D 9 = false := by
              cases h : D 9 with
              | false => rfl
              | true =>
                have h2 := (hclo 9 _ rfl h 4 rfl)
                rw [hDi] at h2
                cases h2
            have e10 : D 10 = false := by
              cases h : D 10 with
              | false => rfl
              | true =>
                have h2 := (hclo 10 _ rfl h 4 rfl)
                rw [hDi] at h2
                cases h2
            have e12 : D 12 = false := by
              cases h : D 12 with
              | false => rfl
              | true =>
                have h2 := (hclo 12 _ rfl h 4 rfl)
                rw [hDi] at h2
                cases h2
            rw [if_neg (by rw [e12]; decide)]
            rw [if_neg (by rw [e10]; decide)]
            rw [if_neg (by rw [e9]; decide)]
            rw [if_neg (by rw [show addD D 4 12 = D 12 from rfl, e12]; decide)] at hC
            rw [if_neg (by rw [show addD D 4 10 = D 10 from rfl, e10]; decide)] at hC
            rw [if_neg (by rw [show addD D 4 9 = D 9 from rfl, e9]; decide)] at hC
            push_cast -implicitDefEqProofs [eq_self, iff_self, t7, t9, t11, hdl, d3, List.getD_cons_zero, List.getD_cons_succ, List.length_cons, List.length_nil]
            exact hC
          · skip
            have e10 : D 10 = false := by
              cases h : D 10 with
              | false => rfl
              | true =>
                have h2 := (hclo 10 _ rfl h 5 rfl)
                rw [hDi] at h2
                cases h2
            have e12 : D 12 = false := by
              cases h : D 12 with
              | false => rfl
              | true =>
                have h2 := (hclo 12 _ rfl h 5 rfl)
                rw [hDi] at h2
                cases h2
            rcases Bool.eq_false_or_eq_true (D 9) with e9 | e9
            · skip
              rw [if_neg (by rw [e12]; decide)]
              rw [if_neg (by rw [e10]; decide)]
              rw [if_pos e9]
              rw [if_neg (by rw [show addD D 5 12 = D 12 from rfl, e12]; decide)] at hC
              rw [if_neg (by rw [show addD D 5 10 = D 10 from rfl, e10]; decide)] at hC
              rw [if_pos (show addD D 5 9 = true from e9)] at hC
              push_cast -implicitDefEqProofs [eq_self, iff_self, t7, t9, t11, hdl, List.getD_cons_zero, List.getD_cons_succ, List.length_cons, List.length_nil]
              exact hC
            · skip
              rw [if_neg (by rw [e12]; decide)]
              rw [if_neg (by rw [e10]; decide)]
              rw [if_neg (by rw [e9]; decide)]
              rw [if_neg (by rw [show addD D 5 12 = D 12 from rfl, e12]; decide)] at hC
              rw [if_neg (by rw [show addD D 5 10 = D 10 from rfl, e10]; decide)] at hC
              rw [if_neg (by rw [show addD D 5 9 = D 9 from rfl, e9]; decide)] at hC
              push_cast -implicitDefEqProofs [eq_self, iff_self, t7, t9, t11, hdl, List.getD_cons_zero, List.getD_cons_succ, List.length_cons, List.length_nil]
              exact hC
          · skip
            have e9 : D 9 = false := by
              cases h : D 9 with
              | false => rfl
              | true =>
                have h2 := (hclo 9 _ rfl h 6 rfl)
                rw [hDi] at h2
                cases h2
            have e10 : D 10 = false := by
              cases h : D 10 with
              | false => rfl
              | true =>
                have h2 := (hclo 10 _ rfl h 6 rfl)
                rw [hDi] at h2
                cases h2
            have e12 : D 12 = false := by
              cases h : D 12 with
              | false => rfl
              | true =>
                have h2 := (hclo 12 _ rfl h 6 rfl)
                rw [hDi] at h2
                cases h2
            rw [if_neg (by rw [e12]; decide)]
            rw [if_neg (by rw [e10]; decide)]
            rw [if_neg (by rw [e9]; decide)]
            rw [if_neg (by rw [show addD D 6 12 = D 12 from rfl, e12]; decide)] at hC
            rw [if_neg (by rw [show addD D 6 10 = D 10 from rfl, e10]; decide)] at hC
            rw [if_neg (by rw [show addD D 6 9 = D 9 from rfl, e9]; decide)] at hC
            push_cast -implicitDefEqProofs [eq_self, iff_self, t7, t9, t11, hdl, List.getD_cons_zero, List.getD_cons_succ, List.length_cons, List.length_nil]
            exact hC
          · skip
            have d0 := hT.put 0 58 (hdep 0 rfl) rfl
            have e9 : D 9 = false := by
              cases h : D 9 with
              | false => rfl
              | true =>
                have h2 := (hclo 8 _ rfl (hclo 9 _ rfl h 8 rfl) 7 rfl)
                rw [hDi] at h2
                cases h2
            have e10 : D 10 = false := by
              cases h : D 10 with
              | false => rfl
              | true =>
                have h2 := (hclo 10 _ rfl h 7 rfl)
                rw [hDi] at h2
                cases h2
            have e12 : D 12 = false := by
              cases h : D 12 with
              | false => rfl
              | true =>
                have h2 := (hclo 12 _ rfl h 7 rfl)
                rw [hDi] at h2
                cases h2
            rw [if_neg (by rw [e12]; decide)]
            rw [if_neg (by rw [e10]; decide)]
            rw [if_neg (by rw [e9]; decide)]
            rw [if_neg (by rw [show addD D 7 12 = D 12 from rfl, e12]; decide)] at hC
            rw [if_neg (by rw [show addD D 7 10 = D 10 from rfl, e10]; decide)] at hC
            rw [if_neg (by rw [show addD D 7 9 = D 9 from rfl, e9]; decide)] at hC
            push_cast -implicitDefEqProofs [eq_self, iff_self, t7, t9, t11, hdl, d0, List.getD_cons_zero, List.getD_cons_succ, List.length_cons, List.length_nil]
            exact hC
          · skip
            have d7 := hT.put 7 65 (hdep 7 rfl) rfl
            have e9 : D 9 = false := by
              cases h : D 9 with
              | false => rfl
              | true =>
                have h2 := (hclo 9 _ rfl h 8 rfl)
                rw [hDi] at h2
                cases h2
            have e10 : D 10 = false := by
              cases h : D 10 with
              | false => rfl
              | true =>
                have h2 := (hclo 10 _ rfl h 8 rfl)
                rw [hDi] at h2
                cases h2
            have e12 : D 12 = false := by
              cases h : D 12 with
              | false => rfl
              | true =>
                have h2 := (hclo 12 _ rfl h 8 rfl)
                rw [hDi] at h2
                cases h2
            rw [if_neg (by rw [e12]; decide)]
            rw [if_neg (by rw [e10]; decide)]
            rw [if_neg (by rw [e9]; decide)]
            rw [if_neg (by rw [show addD D 8 12 = D 12 from rfl, e12]; decide)] at hC
            rw [if_neg (by rw [show addD D 8 10 = D 10 from rfl, e10]; decide)] at hC
            rw [if_neg (by rw [show addD D 8 9 = D 9 from rfl, e9]; decide)] at hC
            push_cast -implicitDefEqProofs [eq_self, iff_self, t7, t9, t11, hdl, d7, List.getD_cons_zero, List.getD_cons_succ, List.length_cons, List.length_nil]
            exact hC
          · skip
            have d6 := hT.put 6 64 (hdep 6 rfl) rfl
            have d8 := hT.put 8 66 (hdep 8 rfl) rfl
            have e9 : D 9 = false := hDi
            have e10 : D 10 = false := by
              cases h : D 10 with
              | false => rfl
              | true =>
                have h2 := (hclo 10 _ rfl h 9 rfl)
                rw [hDi] at h2
                cases h2
            have e12 : D 12 = false := by
              cases h : D 12 with
              | false => rfl
              | true =>
                have h2 := (hclo 12 _ rfl h 9 rfl)
                rw [hDi] at h2
                cases h2
            rw [if_neg (by rw [e12]; decide)]
            rw [if_neg (by rw [e10]; decide)]
            rw [if_neg (by rw [e9]; decide)]
            rw [if_neg (by rw [show addD D 9 12 = D 12 from rfl, e12]; decide)] at hC
            rw [if_neg (by rw [show addD D 9 10 = D 10 from rfl, e10]; decide)] at hC
            rw [if_pos (show addD D 9 9 = true from rfl)] at hC
            push_cast -implicitDefEqProofs [eq_self, iff_self, t7, t9, t11, hdl, d6, d8, List.getD_cons_zero, List.getD_cons_succ, List.length_cons, List.length_nil]
            exact hC
          · skip
            have d4 := hT.put 4 62 (hdep 4 rfl) rfl
            have d5 := hT.put 5 63 (hdep 5 rfl) rfl
            have e9 : D 9 = true := (hdep 9 rfl)
            have e10 : D 10 = false := hDi
            have e12 : D 12 = false := by
              cases h : D 12 with
              | false => rfl
              | true =>
                have h2 := (hclo 12 _ rfl h 10 rfl)
                rw [hDi] at h2
                cases h2
            rw [if_neg (by rw [e12]; decide)]
            rw [if_neg (by rw [e10]; decide)]
            rw [if_pos e9]
            rw [if_neg (by rw [show addD D 10 12 = D 12 from rfl, e12]; decide)] at hC
            rw [if_pos (show addD D 10 10 = true from rfl)] at hC
            push_cast -implicitDefEqProofs [eq_self, iff_self, t7, t9, t11, hdl, lits, keyJ_of, doneKV_keys, hfa, hkn, doneKV_len, d4, d5, List.getD_cons_zero, List.getD_cons_succ, List.length_cons, List.length_nil]
            exact hC
          · skip
            have d10 := hT.put 10 67 (hdep 10 rfl) rfl
            have e9 : D 9 = true := (hclo 10 _ rfl (hdep 10 rfl) 9 rfl)
            have e10 : D 10 = true := (hdep 10 rfl)
            have e12 : D 12 = false := by
              cases h : D 12 with
              | false => rfl
              | true =>
                have h2 := (hclo 12 _ rfl h 11 rfl)
                rw [hDi] at h2
                cases h2
            rw [if_neg (by rw [e12]; decide)]
            rw [if_pos e10]
            rw [if_neg (by rw [show addD D 11 12 = D 12 from rfl, e12]; decide)] at hC
            rw [if_pos (show addD D 11 10 = true from e10)] at hC
            push_cast -implicitDefEqProofs [eq_self, iff_self, t7, t9, t11, hdl, d10, List.getD_cons_zero, List.getD_cons_succ, List.length_cons, List.length_nil]
            exact hC
          · skip
            have d4 := hT.put 4 62 (hdep 4 rfl) rfl
            have d11 := hT.put 11 68 (hdep 11 rfl) rfl
            have e9 : D 9 = true := (hdep 9 rfl)
            have e10 : D 10 = true := (hdep 10 rfl)
            have e12 : D 12 = false := hDi
            rw [if_neg (by rw [e12]; decide)]
            rw [if_pos e10]
            rw [if_pos (show addD D 12 12 = true from rfl)] at hC
            push_cast -implicitDefEqProofs [eq_self, iff_self, t7, t9, t11, hdl, hmod, d4, d11, List.getD_cons_zero, List.getD_cons_succ, List.length_cons, List.length_nil]
            exact ⟨by omega, hC⟩
        · intro T D hD hT
          try dsimp only
          rw [if_pos (hD 12 (by decide))]
          have t4 := hT.low 4 rfl
          have t7 := hT.low 7 rfl
          have t8 := hT.low 8 rfl
          have t9 := hT.low 9 rfl
          push_cast -implicitDefEqProofs [eq_self, iff_self, t4, t7, t8, t9]
          have hcall := Next_ok (H.nxt + 3) (H.nxt + 2) (by omega) q.1 hqf (dn ++ [j]) pk k4 (H.plus [none, some (.cells 3 [[.nilS, .nilS, .nilS]] 0), some (.amap (doneKV (dn ++ [j]))), some (.cells 5 [[.sl (q.1.N.map encN), .sl (q.1.G.map encI), .sl (q.1.P.map encI), .mp (H.nxt + 2), .sl (pk.map encI)]] 0), some (.cells 3 [encJ j] 0), some (.cells 3 [[.sl (q.1.N.map encN), .sl (q.1.G.map encI), .sl (q.1.P.map encI)]] 0), some (.cells 3 [encJ j] 0)]) ⟨by rw [plus_obj]; rfl, by rw [plus_obj]; rfl, by rw [plus_nxt]; simp, by rw [plus_nxt]; simp⟩
          refine ACalls.mono hcall ?_
          rintro r H' ⟨rfl, rfl⟩
          generalize nextJ q.1 (dn ++ [j]) pk = x at hnx ⊢
          obtain ⟨j2, b2, pk2⟩ := x
          push_cast -implicitDefEqProofs [eq_self, iff_self, t4, t7, t8, t9]
          refine next_at [none, some 1, some 2, some 3, some 6] ⟨q.1, dn ++ [j], pk2, j2, b2, f⟩ hnx (Nat.lt_succ_self _) rfl ?_ ?_
          · (try push_cast -implicitDefEqProofs [eq_self, iff_self, t4, t7, t8, t9])
          · (try push_cast -implicitDefEqProofs [eq_self, iff_self, sealO_done, sealO_run])
      · have he' : (q.2 = 0) = False := eq_false he
        rw [if_neg he] at k5
        subst k5
        push_cast -implicitDefEqProofs [eq_self, iff_self, he']
        refine .inl (areg_ord (fun D => if D 10 = true then H.plus [none, some (.cells 3 [[.sl (m1.N.map encN), .sl (m1.G.map encI), .sl (m1.P.map encI)]] 0), some (.amap (doneKV dn)), some (.cells 5 [[.sl (m1.N.map encN), .sl (m1.G.map encI), .sl (m1.P.map encI), .mp (H.nxt + 2), .sl (pk.map encI)]] 0), some (.cells 3 [encJ j] 0), some (.cells 3 [[.sl (q.1.N.map encN), .sl (q.1.G.map encI), .sl (q.1.P.map encI)]] 0)] else H.plus [none, some (.cells 3 [[.nilS, .nilS, .nilS]] 0), some (.amap (doneKV dn)), some (.cells 5 [[.sl (m1.N.map encN), .sl (m1.G.map encI), .sl (m1.P.map encI), .mp (H.nxt + 2), .sl (pk.map encI)]] 0), some (.cells 3 [encJ j] 0), some (.cells 3 [[.sl (q.1.N.map encN), .sl (q.1.G.map encI), .sl (q.1.P.map encI)]] 0)]) (fun k => [AV.ptr (H.nxt + 3) 5 0 0, AV.ptr (H.nxt + 3) 5 0 0, AV.ptr (H.nxt + 3) 5 0 0, AV.agg [.sl (m1.N.map encN), .sl (m1.G.map encI), .sl (m1.P.map encI)], AV.ptr (H.nxt + 3) 5 0 0, AV.ptr (H.nxt + 3) 5 0 0, AV.ptr (H.nxt + 3) 5 0 3, AV.mp (H.nxt + 2), AV.int dn.length, AV.int q.2, AV.any, AV.int dn.length, AV.int q.2].getD k .any) (by kernel_rfl) (by kernel_rfl) ?_ ?_)
        · intro i0 o T D C ho hDi hdep hclo hT hC
          have hc : i0 = 0 ∨ i0 = 1 ∨ i0 = 2 ∨ i0 = 3 ∨ i0 = 4 ∨ i0 = 5 ∨ i0 = 6 ∨ i0 = 7 ∨ i0 = 8 ∨ i0 = 9 ∨ i0 = 10 ∨ i0 = 11 ∨ i0 = 12 := by
            have := (Array.getElem?_eq_some_iff.1 ho).1
            simp only [List.size_toArray, List.length_cons, List.length_nil] at this
            omega
          have t4 := hT.low 4 rfl
          have t7 := hT.low 7 rfl
          have t12 := hT.low 12 rfl
          try dsimp only at hC ⊢
          rcases hc with rfl | rfl | rfl | rfl | rfl | rfl | rfl | rfl | rfl | rfl | rfl | rfl | rfl
          all_goals
            simp only [List.getElem?_toArray, List.getElem?_cons_zero, List.getElem?_cons_succ, Option.some.injEq] at ho
            subst ho
          · skip
            have e10 : D 10 = false := by
              cases h : D 10 with
              | false => rfl
              | true =>
                have h2 := (hclo 10 _ rfl h 0 rfl)
                rw [hDi] at h2
                cases h2
            rw [if_neg (by rw [e10]; decide)]
            rw [if_neg (by rw [show addD D 0 10 = D 10 from rfl, e10]; decide)] at hC
            push_cast -implicitDefEqProofs [eq_self, iff_self, t4, t7, t12, hdl, List.getD_cons_zero, List.getD_cons_succ, List.length_cons, List.length_nil]
            exact hC
          · skip
            have d0 := hT.put 0 48 (hdep 0 rfl) rfl
            have e10 : D 10 = false := by
              cases h : D 10 with
              | false => rfl
              | true =>
                have h2 := (hclo 10 _ rfl h 1 rfl)
                rw [hDi] at h2
                cases h2
            rw [if_neg (by rw [e10]; decide)]
            rw [if_neg (by rw [show addD D 1 10 = D 10 from rfl, e10]; decide)] at hC
            push_cast -implicitDefEqProofs [eq_self, iff_self, t4, t7, t12, hdl, d0, List.getD_cons_zero, List.getD_cons_succ, List.length_cons, List.length_nil]
            exact hC
          · skip
            have d1 := hT.put 1 49 (hdep 1 rfl) rfl
            have e10 : D 10 = false := by
              cases h : D 10 with
              | false => rfl
              | true =>
                have h2 := (hclo 10 _ rfl h 2 rfl)
                rw [hDi] at h2
                cases h2
            rw [if_neg (by rw [e10]; decide)]
            rw [if_neg (by rw [show addD D 2 10 = D 10 from rfl, e10]; decide)] at hC
            push_cast -implicitDefEqProofs [eq_self, iff_self, t4, t7, t12, hdl, d1, List.getD_cons_zero, List.getD_cons_succ, List.length_cons, List.length_nil]
            exact hC
          · skip
            have d2 := hT.put 2 50 (hdep 2 rfl) rfl
            have e10 : D 10 = false := by
              cases h : D 10 with
              | false => rfl
              | true =>
                have h2 := (hclo 10 _ rfl h 3 rfl)
                rw [hDi] at h2
                cases h2
            rw [if_neg (by rw [e10]; decide)]
            rw [if_neg (by rw [show addD D 3 10 = D 10 from rfl, e10]; decide)] at hC
            push_cast -implicitDefEqProofs [eq_self, iff_self, t4, t7, t12, hdl, d2, List.getD_cons_zero, List.getD_cons_succ, List.length_cons, List.length_nil]
            exact hC
          · skip
            have e10 : D 10 = false := by
              cases h : D 10 with
              | false => rfl
              | true =>
                have h2 := (hclo 5 _ rfl (hclo 6 _ rfl (hclo 7 _ rfl (hclo 8 _ rfl (hclo 10 _ rfl h 8 rfl) 7 rfl) 6 rfl) 5 rfl) 4 rfl)
                rw [hDi] at h2
                cases h2
            rw [if_neg (by rw [e10]; decide)]
            rw [if_neg (by rw [show addD D 4 10 = D 10 from rfl, e10]; decide)] at hC
            push_cast -implicitDefEqProofs [eq_self, iff_self, t4, t7, t12, hdl, List.getD_cons_zero, List.getD_cons_succ, List.length_cons, List.length_nil]
            exact hC
          · skip
            have d4 := hT.put 4 52 (hdep 4 rfl) rfl
            have e10 : D 10 = false := by
              cases h : D 10 with
              | false => rfl
              | true =>
                have h2 := (hclo 6 _ rfl (hclo 7 _ rfl (hclo 8 _ rfl (hclo 10 _ rfl h 8 rfl) 7 rfl) 6 rfl) 5 rfl)
                rw [hDi] at h2
                cases h2
            rw [if_neg (by rw [e10]; decide)]
            rw [if_neg (by rw [show addD D 5 10 = D 10 from rfl, e10]; decide)] at hC
            push_cast -implicitDefEqProofs [eq_self, iff_self, t4, t7, t12, hdl, d4, List.getD_cons_zero, List.getD_cons_succ, List.length_cons, List.length_nil]
            exact hC
          · skip
            have d5 := hT.put 5 53 (hdep 5 rfl) rfl
            have e10 : D 10 = false := by
              cases h : D 10 with
              | false => rfl
              | true =>
                have h2 := (hclo 7 _ rfl (hclo 8 _ rfl (hclo 10 _ rfl h 8 rfl) 7 rfl) 6 rfl)
                rw [hDi] at h2
                cases h2
            rw [if_neg (by rw [e10]; decide)]
            rw [if_neg (by rw [show addD D 6 10 = D 10 from rfl, e10]; decide)] at hC
            push_cast -implicitDefEqProofs [eq_self, iff_self, t4, t7, t12, hdl, d5, List.getD_cons_zero, List.getD_cons_succ, List.length_cons, List.length_nil]
            exact hC
          · skip
            have d6 := hT.put 6 54 (hdep 6 rfl) rfl
            have e10 : D 10 = false := by
              cases h : D 10 with
              | false => rfl
              | true =>
                have h2 := (hclo 8 _ rfl (hclo 10 _ rfl h 8 rfl) 7 rfl)
                rw [hDi] at h2
                cases h2
            rw [if_neg (by rw [e10]; decide)]
            rw [if_neg (by rw [show addD D 7 10 = D 10 from rfl, e10]; decide)] at hC
            push_cast -implicitDefEqProofs [eq_self, iff_self, t4, t7, t12, hdl, d6, List.getD_cons_zero, List.getD_cons_succ, List.length_cons, List.length_nil]
            exact hC
          · skip
            have d7 := hT.put 7 55 (hdep 7 rfl) rfl
            have e10 : D 10 = false := by
              cases h : D 10 with
              | false => rfl
              | true =>
                have h2 := (hclo 10 _ rfl h 8 rfl)
                rw [hDi] at h2
                cases h2
            rw [if_neg (by rw [e10]; decide)]
            rw [if_neg (by rw [show addD D 8 10 = D 10 from rfl, e10]; decide)] at hC
            push_cast -implicitDefEqProofs [eq_self, iff_self, t4, t7, t12, hdl, d7, List.getD_cons_zero, List.getD_cons_succ, List.length_cons, List.length_nil]
            exact ⟨⟨_, _, rfl⟩, hC⟩
          · skip
            rcases Bool.eq_false_or_eq_true (D 10) with e10 | e10
            · skip
              rw [if_pos e10]
              rw [if_pos (show addD D 9 10 = true from e10)] at hC
              push_cast -implicitDefEqProofs [eq_self, iff_self, t4, t7, t12, hdl, List.getD_cons_zero, List.getD_cons_succ, List.length_cons, List.length_nil]
              exact hC
            · skip
              rw [if_neg (by rw [e10]; decide)]
              rw [if_neg (by rw [show addD D 9 10 = D 10 from rfl, e10]; decide)] at hC
              push_cast -implicitDefEqProofs [eq_self, iff_self, t4, t7, t12, hdl, List.getD_cons_zero, List.getD_cons_succ, List.length_cons, List.length_nil]
              exact hC
          · skip
            have d3 := hT.put 3 51 (hdep 3 rfl) rfl
            have e10 : D 10 = false := hDi
            rw [if_neg (by rw [e10]; decide)]
            rw [if_pos (show addD D 10 10 = true from rfl)] at hC
            push_cast -implicitDefEqProofs [eq_self, iff_self, t4, t7, t12, hdl, d3, List.getD_cons_zero, List.getD_cons_succ, List.length_cons, List.length_nil]
            exact hC
          · skip
            have d8 := hT.put 8 56 (hdep 8 rfl) rfl
            have e10 : D 10 = true := (hdep 10 rfl)
            rw [if_pos e10]
            rw [if_pos (show addD D 11 10 = true from e10)] at hC
            push_cast -implicitDefEqProofs [eq_self, iff_self, t4, t7, t12, hdl, d8, List.getD_cons_zero, List.getD_cons_succ, List.length_cons, List.length_nil]
            exact hC
          · skip
            have d9 := hT.put 9 57 (hdep 9 rfl) rfl
            have e10 : D 10 = true := (hdep 10 rfl)
            rw [if_pos e10]
            rw [if_pos (show addD D 12 10 = true from e10)] at hC
            push_cast -implicitDefEqProofs [eq_self, iff_self, t4, t7, t12, hdl, d9, List.getD_cons_zero, List.getD_cons_succ, List.length_cons, List.length_nil]
            exact hC
        · intro T D hD hT
          try dsimp only
          rw [if_pos (hD 10 (by decide))]
          have t4 := hT.low 4 rfl
          have d11 := hT.put 11 5 (hD 11 (by decide)) rfl
          have d12 := hT.put 12 6 (hD 12 (by decide)) rfl
          push_cast -implicitDefEqProofs [eq_self, iff_self, t4, d11, d12, List.getD_cons_zero, List.getD_cons_succ, List.length_cons, List.length_nil]
end
section
attribute [local push_cast] encIs_pure encNs_pure encJs_pure encN_eq encM_eq encJ_eq plus_obj0 plus_set0 piL_is00 piL_is0 piL_isk encIs_one encNs_four encJs_three
def iota (n : Nat) : List Int := (List.range n).map fun (k : Nat) => (k : Int)
theorem iota_succ (n : Nat) : iota (n + 1) = iota n ++ [(n : Int)] := by rw [iota, List.range_succ, List.map_append]; rfl
theorem iota_len (n : Nat) : (iota n).length = n := by simp [iota]
theorem iota_at {n k : Nat} (h : k < n) : (iota n).getD k 0 = k := by rw [iota, List.getD_eq_getElem?_getD, List.getElem?_map, List.getElem?_range h]; rfl
theorem stM0 : encB (stM 0 0) = [.sl [], .sl [], .sl []] := rfl
theorem encB_eq (m : Mm) : encB m = [.sl (m.N.map encN), .sl (m.G.map encI), .sl (m.P.map encI)] := rfl
theorem start_cut (n : Int) : start n = if 1 ≤ n ∧ n ≤ 4 then (stM n.toNat (n.toNat - 1), lastM n.toNat (n.toNat - 1), true) else (⟨[], [], []⟩, -1, false) := rfl
set_option maxHeartbeats 4000000 in
theorem Start_ok (n : Int) : Quiet Go.Proofs.Try.prog 17 [.int n] (.tup [encM (start n).1, .int (start n).2.1, .bool (start n).2.2]) := by
  refine quiet_of (rs := #[.cell 2 25, .tmp 3, .tmp 4]) Go.Proofs.Try.func17 rfl rfl rfl mixed rfl rfl fun H hs => ?_
  have hst := start_cut n
  generalize start n = t at hst ⊢
  by_cases h1 : n < 1
  · have h1' : decide (n < 1) = true := decide_eq_true h1
    rw [if_neg (by omega)] at hst
    subst hst
    push_cast -implicitDefEqProofs [eq_self, iff_self, h1']
    repeat (refine gskip ?_; push_cast -implicitDefEqProofs [eq_self, iff_self])
  have h1' : decide (n < 1) = false := decide_eq_false h1
  by_cases h2 : 4 < n
  · have h2' : decide (4 < n) = true := decide_eq_true h2
    rw [if_neg (by omega)] at hst
    subst hst
    push_cast -implicitDefEqProofs [eq_self, iff_self, h1', h2']
  have h2' : decide (4 < n) = false := decide_eq_false h2
  rw [if_pos (by omega)] at hst
  obtain ⟨n, rfl⟩ : ∃ k : Nat, n = k := ⟨n.toNat, by omega⟩
  rw [Int.toNat_natCast] at hst
  subst hst
  push_cast -implicitDefEqProofs [eq_self, iff_self, h1', h2']
  have e0 : iota 0 = [] := rfl
  refine loop_at hs (σ := Nat) (fun k => k ≤ n) (fun k => n - k)
    (fun k => [(19, .int k), (18, .int n), (7, .rsl (H.nxt + 3) 1 0 k), (5, .ptr (H.nxt + 1) 3 0 0), (2, .ptr (H.nxt + 0) 3 0 0)])
    (fun k => [some (.cells 3 [[.nilS, .nilS, .nilS]] 0), some (.cells 3 [encB (stM k 0)] 0), none, some (.cells 1 ((iota k).map encI) 0)]) [some 0, some 1, none, none] 0 (by omega) rfl ?_ ?_ ?_
  · (try push_cast -implicitDefEqProofs [eq_self, iff_self])
  · (try push_cast -implicitDefEqProofs [eq_self, iff_self, stM0, e0])
  intro k hk2
  by_cases hk : k < n
  · have hk' := inb_true hk
    have hleaf := start_leaf k (by omega)
    have hput := Put_ok (stM k 0) (stM_small k 0 (by omega) (by omega)) ⟨false, k, 0, 0⟩ (-1)
    rw [hleaf] at hput
    have hrow : List.take k ((iota k).map encI) ++ [[AV.lit (.int .i64 (k : Int))]] = (iota (k + 1)).map encI := by
      rw [List.take_of_length_le (by simp [iota_len]), iota_succ, List.map_append]; rfl
    have hlk := iota_len k
    push_cast -implicitDefEqProofs [eq_self, iff_self, hk', encB_eq]
    refine callq hput ?_
    push_cast -implicitDefEqProofs [eq_self, iff_self, encB_eq, hlk]
    refine ⟨by omega, ?_⟩
    rw [wrap64 (by omega) (by omega), hrow]
    refine next_at [some 0, some 1, none, some 5] (k + 1) (by omega) (by omega) rfl ?_ ?_
    · (try push_cast -implicitDefEqProofs [eq_self, iff_self])
    · (try push_cast -implicitDefEqProofs [eq_self, iff_self, encB_eq])
  · have hk' : ((k : Int) < (n : Int)) = False := by simp; omega
    obtain rfl : k = n := by omega
    have hg0 := int_at (p := iota k) (i := 0) (by rw [iota_len]; omega)
    rw [iota_at (by omega)] at hg0
    have hlk := iota_len k
    push_cast -implicitDefEqProofs [eq_self, iff_self, hk', encB_eq, hg0, hlk]
    refine ⟨by omega, by omega, by omega, ?_⟩
    have el0 : lastM k 0 = 0 := rfl
    refine loop_at hs (σ := Nat) (fun i => i + 1 ≤ k) (fun i => k - i)
      (fun i => [(41, .int i), (40, .int (k - 1 : Nat)), (39, .rsl (H.nxt + 3) 1 1 (k - 1)), (6, .int (lastM k i)), (5, .ptr (H.nxt + 1) 3 0 0), (2, .ptr (H.nxt + 0) 3 0 0)])
      (fun i => [some (.cells 3 [[.nilS, .nilS, .nilS]] 0), some (.cells 3 [encB (stM k i)] 0), none, some (.cells 1 ((iota k).map encI) 0)]) [some 0, some 1, none, some 3] 0 (by omega) rfl ?_ ?_ ?_
    · (try push_cast -implicitDefEqProofs [eq_self, iff_self, el0])
    · (try push_cast -implicitDefEqProofs [eq_self, iff_self, encB_eq])
    intro i hi2
    by_cases hi : i + 1 < k
    · have hi' : ((i : Int) < ((k - 1 : Nat) : Int)) = True := eq_true (by omega)
      have hi0 : (0 ≤ (i : Int)) = True := by simp
      have hgi : ((iota k).map encI).getD (1 + i) [] = [.int ((i : Int) + 1)] := by
        rw [int_at (by rw [iota_len]; omega), iota_at (by omega), show ((1 + i : Nat) : Int) = (i : Int) + 1 by omega]
      have ei : ((i + 1 : Nat) : Int) = (i : Int) + 1 := by omega
      have hjoin := start_join k i (by omega) hi
      have hput := Put_ok (stM k i) (stM_small k i (by omega) (by omega)) (ndJ (lastM k i) (i + 1 : Nat)) (-1)
      rw [hjoin, ei] at hput
      push_cast -implicitDefEqProofs [eq_self, iff_self, hi', hi0, encB_eq, hgi, hlk]
      refine ⟨by omega, ?_⟩
      refine .inl (areg_ord (fun D => if D 9 = true then H.plus [some (.cells 3 [[.nilS, .nilS, .nilS]] 0), some (.cells 3 [[.sl ((stM k (i + 1)).N.map encN), .sl ((stM k (i + 1)).G.map encI), .sl ((stM k (i + 1)).P.map encI)]] 0), none, some (.cells 1 ((iota k).map encI) 0)] else H.plus [some (.cells 3 [[.nilS, .nilS, .nilS]] 0), some (.cells 3 [[.sl ((stM k i).N.map encN), .sl ((stM k i).G.map encI), .sl ((stM k i).P.map encI)]] 0), none, some (.cells 1 ((iota k).map encI) 0)]) (fun q9 => [AV.agg [.sl ((stM k i).N.map encN), .sl ((stM k i).G.map encI), .sl ((stM k i).P.map encI)], AV.int (lastM k i), AV.int ((i : Int) + 1), AV.agg (encN (ndJ (lastM k i) ((i : Int) + 1))), AV.tup [.agg [.sl ((stM k (i + 1)).N.map encN), .sl ((stM k (i + 1)).G.map encI), .sl ((stM k (i + 1)).P.map encI)], .int (lastM k (i + 1)), .int 0], AV.tup [.agg [.sl ((stM k (i + 1)).N.map encN), .sl ((stM k (i + 1)).G.map encI), .sl ((stM k (i + 1)).P.map encI)], .int (lastM k (i + 1)), .int 0], AV.agg [.sl ((stM k (i + 1)).N.map encN), .sl ((stM k (i + 1)).G.map encI), .sl ((stM k (i + 1)).P.map encI)], AV.int (lastM k (i + 1)), AV.int 0, AV.any, AV.int (lastM k (i + 1))].getD q9 .any) (by kernel_rfl) (by kernel_rfl) ?_ ?_)
      · intro i0 o T D C ho hDi hdep hclo hT hC
        have hc : i0 = 0 ∨ i0 = 1 ∨ i0 = 2 ∨ i0 = 3 ∨ i0 = 4 ∨ i0 = 5 ∨ i0 = 6 ∨ i0 = 7 ∨ i0 = 8 ∨ i0 = 9 ∨ i0 = 10 := by
          have := (Array.getElem?_eq_some_iff.1 ho).1
          simp only [List.size_toArray, List.length_cons, List.length_nil] at this
          omega
        have t2 := hT.low 2 rfl
        have t5 := hT.low 5 rfl
        have t10 := hT.low 10 rfl
        try dsimp only at hC ⊢
        rcases hc with rfl | rfl | rfl | rfl | rfl | rfl | rfl | rfl | rfl | rfl | rfl
        all_goals
          simp only [List.getElem?_toArray, List.getElem?_cons_zero, List.getElem?_cons_succ, Option.some.injEq] at ho
          subst ho
        · skip
          have e9 : D 9 = false := by
            cases h : D 9 with
            | false => rfl
            | true =>
              have h2 := (hclo 9 _ rfl h 0 rfl)
              rw [hDi] at h2
              cases h2
          rw [if_neg (by rw [e9]; decide)]
          rw [if_neg (by rw [show addD D 0 9 = D 9 from rfl, e9]; decide)] at hC
          push_cast -implicitDefEqProofs [eq_self, iff_self, t2, t5, t10, List.getD_cons_zero, List.getD_cons_succ, List.length_cons, List.length_nil]
          exact hC
        · skip
          have e9 : D 9 = false := by
            cases h : D 9 with
            | false => rfl
            | true =>
              have h2 := (hclo 9 _ rfl h 1 rfl)
              rw [hDi] at h2
              cases h2
          rw [if_neg (by rw [e9]; decide)]
          rw [if_neg (by rw [show addD D 1 9 = D 9 from rfl, e9]; decide)] at hC
          have e10 : D 10 = false := by
            cases h : D 10 with
            | false => rfl
            | true =>
              have h2 := hclo 10 _ rfl h 1 rfl
              rw [hDi] at h2
              cases h2
          have t6 := hT.old 6 (fun k hk => by have := dst_inj (by kernel_rfl) hk (show dstOf _ 10 = some 6 from rfl); subst this; exact e10)
          push_cast -implicitDefEqProofs [eq_self, iff_self, t2, t5, t10, t6, List.getD_cons_zero, List.getD_cons_succ, List.length_cons, List.length_nil]
          exact hC
        · skip
          have e9 : D 9 = false := by
            cases h : D 9 with
            | false => rfl
            | true =>
              have h2 := (hclo 9 _ rfl h 2 rfl)
              rw [hDi] at h2
              cases h2
          rw [if_neg (by rw [e9]; decide)]
          rw [if_neg (by rw [show addD D 2 9 = D 9 from rfl, e9]; decide)] at hC
          push_cast -implicitDefEqProofs [eq_self, iff_self, t2, t5, t10, List.getD_cons_zero, List.getD_cons_succ, List.length_cons, List.length_nil]
          exact hC
        · skip
          have d1 := hT.put 1 47 (hdep 1 rfl) rfl
          have d2 := hT.put 2 48 (hdep 2 rfl) rfl
          have e9 : D 9 = false := by
            cases h : D 9 with
            | false => rfl
            | true =>
              have h2 := (hclo 9 _ rfl h 3 rfl)
              rw [hDi] at h2
              cases h2
          rw [if_neg (by rw [e9]; decide)]
          rw [if_neg (by rw [show addD D 3 9 = D 9 from rfl, e9]; decide)] at hC
          push_cast -implicitDefEqProofs [eq_self, iff_self, t2, t5, t10, d1, d2, List.getD_cons_zero, List.getD_cons_succ, List.length_cons, List.length_nil]
          refine callq (JoinG_ok _ _) ?_
          exact hC
        · skip
          have d0 := hT.put 0 46 (hdep 0 rfl) rfl
          have d3 := hT.put 3 49 (hdep 3 rfl) rfl
          have e9 : D 9 = false := by
            cases h : D 9 with
            | false => rfl
            | true =>
              have h2 := (hclo 9 _ rfl h 4 rfl)
              rw [hDi] at h2
              cases h2
          rw [if_neg (by rw [e9]; decide)]
          rw [if_neg (by rw [show addD D 4 9 = D 9 from rfl, e9]; decide)] at hC
          push_cast -implicitDefEqProofs [eq_self, iff_self, t2, t5, t10, d0, d3, List.getD_cons_zero, List.getD_cons_succ, List.length_cons, List.length_nil]
          refine callq hput ?_
          exact hC
        · skip
          have d4 := hT.put 4 50 (hdep 4 rfl) rfl
          have e9 : D 9 = false := by
            cases h : D 9 with
            | false => rfl
            | true =>
              have h2 := (hclo 9 _ rfl h 5 rfl)
              rw [hDi] at h2
              cases h2
          rw [if_neg (by rw [e9]; decide)]
          rw [if_neg (by rw [show addD D 5 9 = D 9 from rfl, e9]; decide)] at hC
          push_cast -implicitDefEqProofs [eq_self, iff_self, t2, t5, t10, d4, List.getD_cons_zero, List.getD_cons_succ, List.length_cons, List.length_nil]
          exact hC
        · skip
          have d5 := hT.put 5 45 (hdep 5 rfl) rfl
          have e9 : D 9 = false := by
            cases h : D 9 with
            | false => rfl
            | true =>
              have h2 := (hclo 9 _ rfl h 6 rfl)
              rw [hDi] at h2
              cases h2
          rw [if_neg (by rw [e9]; decide)]
          rw [if_neg (by rw [show addD D 6 9 = D 9 from rfl, e9]; decide)] at hC
          push_cast -implicitDefEqProofs [eq_self, iff_self, t2, t5, t10, d5, List.getD_cons_zero, List.getD_cons_succ, List.length_cons, List.length_nil]
          exact hC
        · skip
          have d5 := hT.put 5 45 (hdep 5 rfl) rfl
          rcases Bool.eq_false_or_eq_true (D 9) with e9 | e9
          · skip
            rw [if_pos e9]
            rw [if_pos (show addD D 7 9 = true from e9)] at hC
            push_cast -implicitDefEqProofs [eq_self, iff_self, t2, t5, t10, d5, List.getD_cons_zero, List.getD_cons_succ, List.length_cons, List.length_nil]
            exact hC
          · skip
            rw [if_neg (by rw [e9]; decide)]
            rw [if_neg (by rw [show addD D 7 9 = D 9 from rfl, e9]; decide)] at hC
            push_cast -implicitDefEqProofs [eq_self, iff_self, t2, t5, t10, d5, List.getD_cons_zero, List.getD_cons_succ, List.length_cons, List.length_nil]
            exact hC
        · skip
          have d5 := hT.put 5 45 (hdep 5 rfl) rfl
          rcases Bool.eq_false_or_eq_true (D 9) with e9 | e9
          · skip
            rw [if_pos e9]
            rw [if_pos (show addD D 8 9 = true from e9)] at hC
            push_cast -implicitDefEqProofs [eq_self, iff_self, t2, t5, t10, d5, List.getD_cons_zero, List.getD_cons_succ, List.length_cons, List.length_nil]
            exact hC
          · skip
            rw [if_neg (by rw [e9]; decide)]
            rw [if_neg (by rw [show addD D 8 9 = D 9 from rfl, e9]; decide)] at hC
            push_cast -implicitDefEqProofs [eq_self, iff_self, t2, t5, t10, d5, List.getD_cons_zero, List.getD_cons_succ, List.length_cons, List.length_nil]
            exact hC
        · skip
          have d6 := hT.put 6 51 (hdep 6 rfl) rfl
          have e9 : D 9 = false := hDi
          rw [if_neg (by rw [e9]; decide)]
          rw [if_pos (show addD D 9 9 = true from rfl)] at hC
          push_cast -implicitDefEqProofs [eq_self, iff_self, t2, t5, t10, d6, List.getD_cons_zero, List.getD_cons_succ, List.length_cons, List.length_nil]
          exact hC
        · skip
          have d7 := hT.put 7 52 (hdep 7 rfl) rfl
          have e9 : D 9 = true := (hdep 9 rfl)
          rw [if_pos e9]
          rw [if_pos (show addD D 10 9 = true from e9)] at hC
          push_cast -implicitDefEqProofs [eq_self, iff_self, t2, t5, t10, d7, List.getD_cons_zero, List.getD_cons_succ, List.length_cons, List.length_nil]
          exact hC
      · intro T D hD hT
        try dsimp only
        rw [if_pos (hD 9 (by decide))]
        have t2 := hT.low 2 rfl
        have t5 := hT.low 5 rfl
        have t39 := hT.low 39 rfl
        have t40 := hT.low 40 rfl
        have t41 := hT.low 41 rfl
        have d10 := hT.put 10 6 (hD 10 (by decide)) rfl
        push_cast -implicitDefEqProofs [eq_self, iff_self, t2, t5, t39, t40, t41, d10, List.getD_cons_zero, List.getD_cons_succ, List.length_cons, List.length_nil]
        rw [wrap64 (by omega) (by omega)]
        refine next_at [some 0, some 1, none, some 3] (i + 1) (by omega) (by omega) rfl ?_ ?_
        · (try push_cast -implicitDefEqProofs [eq_self, iff_self, t2, t5, t39, t40, t41, d10, List.getD_cons_zero, List.getD_cons_succ])
        · (try push_cast -implicitDefEqProofs [eq_self, iff_self, encB_eq])
    · have hi' : ((i : Int) < ((k - 1 : Nat) : Int)) = False := eq_false (by omega)
      obtain rfl : i = k - 1 := by omega
      push_cast -implicitDefEqProofs [eq_self, iff_self, hi', encB_eq]
end
section
mutual
def encT : Tr → List AV
  | .mk o l => [.int o, .sl (encTs l)]
def encTs : List Tr → List (List AV)
  | [] => []
  | x :: l => encT x :: encTs l
end
theorem encTs_eq : ∀ l : List Tr, encTs l = l.map encT
  | [] => rfl
  | x :: l => by simp only [encTs, List.map_cons, encTs_eq l]
theorem encT_mk (o : Int) (l : List Tr) : encT (.mk o l) = [.int o, .sl (l.map encT)] := by rw [← encTs_eq, encT]
theorem encT_len (e : Tr) : (encT e).length = 2 := by cases e; rw [encT_mk]; rfl
theorem encT_take (e : Tr) : (encT e).take 2 = encT e := by rw [← encT_len e, List.take_length]
theorem encT_one (e : Tr) : (encT e).all AV.one = true := by cases e; rw [encT_mk]; rfl
theorem encT_pure (e : Tr) : PureL (encT e) := by
  induction e using Tr.ind with
  | h o l ih =>
    rw [encT_mk]
    simp only [PureL, Pure, true_and, and_true, pureLL_iff, List.mem_map]
    rintro _ ⟨x, hx, rfl⟩
    exact ih x hx
theorem encTs_pure (l : List Tr) : PureLL (l.map encT) := by
  rw [pureLL_iff]
  simp only [List.mem_map]
  rintro _ ⟨x, _, rfl⟩
  exact encT_pure x
theorem encTs_get (l : List Tr) (i : Nat) (h : i < l.length) : (l.map encT).getD i [] = encT l[i] := getD_map encT l [] i h
theorem encTs_two (l : List Tr) : (∀ e ∈ l.map encT, e.length = 2) = True := by
  simp only [List.mem_map, eq_iff_iff, iff_true]
  rintro _ ⟨x, _, rfl⟩
  exact encT_len x
attribute [local push_cast] encT_mk encT_take encT_len encT_one encTs_pure encT_pure
theorem Leaf_ok (o : Int) : Quiet Go.Proofs.Try.prog 33 [.int o] (.agg (encT (.leaf o))) := by
  refine quiet_of (rs := #[.cell 2 58]) Go.Proofs.Try.func33 rfl rfl rfl mixed rfl rfl fun H hs => ?_
  push_cast -implicitDefEqProofs [eq_self, iff_self, Tr.leaf]
theorem Join_ok (x y : Tr) : Quiet Go.Proofs.Try.prog 44 [.agg (encT x), .agg (encT y)] (.agg (encT (.join x y))) := by
  refine quiet_of (rs := #[.cell 4 58]) Go.Proofs.Try.func44 rfl rfl rfl mixed rfl rfl fun H hs => ?_
  push_cast -implicitDefEqProofs [eq_self, iff_self, Tr.join]
theorem shl_pow (n : Nat) (h : n ≤ 3) : bshl .i64 1 n = 2 ^ n := by
  have hc : n = 0 ∨ n = 1 ∨ n = 2 ∨ n = 3 := by omega
  rcases hc with rfl | rfl | rfl | rfl <;> decide +kernel
set_option maxHeartbeats 2000000 in
theorem setT_ok : ∀ (d : Nat) (t : Tr), d ≤ 4 → t.Ok → Quiet Go.Proofs.Try.prog 74 [.agg (encT t), .int d] (.tup [.int (setT d t).1, .bool (setT d t).2])
  | 0, .mk o l, _, _ => by
    refine quiet_of (rs := #[.tmp 4, .tmp 5]) Go.Proofs.Try.func74 rfl rfl rfl mixed rfl rfl fun H hs => ?_
    push_cast -implicitDefEqProofs [eq_self, iff_self, setT]
  | d + 1, .mk o [], hd, ht => by
    have hd0 : ((d : Int) + 1 = 0) = False := by simp; omega
    have ht := tmod4 o
    refine quiet_of (rs := #[.tmp 4, .tmp 5]) Go.Proofs.Try.func74 rfl rfl rfl mixed rfl rfl fun H hs => ?_
    rw [setT_nil]
    have hm : (if 0 > o.tmod 4 then 0 else o.tmod 4) = (max (o.tmod 4) 0) := by split <;> omega
    have hp : bshl .i64 1 (max (o.tmod 4) 0) = 2 ^ (max (o.tmod 4) 0).toNat := by
      obtain ⟨n, hn⟩ : ∃ n : Nat, max (o.tmod 4) 0 = n := ⟨(max (o.tmod 4) 0).toNat, by omega⟩
      rw [hn]
      exact shl_pow n (by omega)
    push_cast -implicitDefEqProofs [eq_self, iff_self, hd0, List.length_nil, List.map_nil, hm, hp]
    exact ht.1
  | d + 1, .mk o [a], hd, ht => by
    have hd0 : ((d : Int) + 1 = 0) = False := by simp; omega
    refine quiet_of (rs := #[.tmp 4, .tmp 5]) Go.Proofs.Try.func74 rfl rfl rfl mixed rfl rfl fun H hs => ?_
    rw [setT_one]
    push_cast -implicitDefEqProofs [eq_self, iff_self, hd0, List.length_cons, List.length_nil, List.map_nil, List.map_cons]
  | d + 1, .mk o (a :: b :: c :: l), hd, ht => by
    have hd0 : ((d : Int) + 1 = 0) = False := by simp; omega
    refine quiet_of (rs := #[.tmp 4, .tmp 5]) Go.Proofs.Try.func74 rfl rfl rfl mixed rfl rfl fun H hs => ?_
    rw [setT_more]
    have e0 : ((l.length : Int) + 1 + 1 + 1 = 0) = False := by simp; omega
    have e2 : ((l.length : Int) + 1 + 1 + 1 = 2) = False := by simp; omega
    push_cast -implicitDefEqProofs [eq_self, iff_self, hd0, List.length_cons, List.length_nil, List.map_nil, List.map_cons, e0, e2]
  | d + 1, .mk o [a, b], hd, ht => by
    have hd0 : ((d : Int) + 1 = 0) = False := by simp; omega
    have hw : IntKind.wrap .i64 ((d : Int) + 1 - 1) = (d : Int) := by rw [wrap64 (by omega) (by omega)]; omega
    refine quiet_of (rs := #[.tmp 4, .tmp 5]) Go.Proofs.Try.func74 rfl rfl rfl mixed rfl rfl fun H hs => ?_
    rw [setT_two]
    obtain ⟨_, hlo⟩ := ht
    have ha := setT_ok d a (by omega) (hlo _ (by simp))
    have hb := setT_ok d b (by omega) (hlo _ (by simp))
    by_cases ho : o = 0
    · have ho' : (o = 0) = True := by simp [ho]
      rw [if_pos ho]
      push_cast -implicitDefEqProofs [eq_self, iff_self, hd0, hw, ho', List.length_cons, List.length_nil, List.map_nil, List.map_cons]
      refine callq ha ?_
      push_cast -implicitDefEqProofs [eq_self, iff_self, hd0, hw, List.length_cons, List.length_nil]
      refine callq hb ?_
      push_cast -implicitDefEqProofs [eq_self, iff_self]
    · have ho' : (o = 0) = False := by simp [ho]
      rw [if_neg ho]
      push_cast -implicitDefEqProofs [eq_self, iff_self, hd0, hw, ho', List.length_cons, List.length_nil, List.map_nil, List.map_cons]
theorem MayT_ok (t : Tr) (h : t.Ok) : Quiet Go.Proofs.Try.prog 45 [.agg (encT t)] (.bool t.may) := by
  have h4 := setT_ok 4 t (by omega) h
  refine quiet_of (rs := #[.tmp 2]) Go.Proofs.Try.func45 rfl rfl rfl mixed rfl rfl fun H hs => ?_
  push_cast -implicitDefEqProofs [eq_self, iff_self]
  refine callq h4 ?_
  push_cast -implicitDefEqProofs [eq_self, iff_self, Tr.may]
end
section
attribute [local push_cast] encT_mk encT_take encT_len encT_one encTs_pure encT_pure
mutual
def sameT : Tr → Tr → Bool
  | .mk o l, .mk o' l' => decide (o = o') && sameTL l l'
def sameTL : List Tr → List Tr → Bool
  | [], [] => true
  | x :: l, y :: m => sameT x y && sameTL l m
  | _, _ => false
end
theorem sameTL_len : ∀ {l m : List Tr}, sameTL l m = true → l.length = m.length
  | [], [], _ => rfl
  | [], _ :: _, h => by simp [sameTL] at h
  | _ :: _, [], h => by simp [sameTL] at h
  | x :: l, y :: m, h => by rw [sameTL, Bool.and_eq_true] at h; simp [sameTL_len h.2]
theorem sameTL_all : ∀ {l m : List Tr}, l.length = m.length → (∀ (i : Nat) (h : i < l.length) (h' : i < m.length), sameT l[i] m[i] = true) → sameTL l m = true
  | [], [], _, _ => rfl
  | [], _ :: _, h, _ => by simp at h
  | _ :: _, [], h, _ => by simp at h
  | x :: l, y :: m, h, hs => by
    rw [sameTL, Bool.and_eq_true]
    exact ⟨hs 0 (by simp) (by simp), sameTL_all (by simpa using h) fun i h1 h2 => hs (i + 1) (by simpa using h1) (by simpa using h2)⟩
theorem sameTL_get : ∀ {l m : List Tr} {i : Nat}, sameTL l m = true → ∀ (h : i < l.length) (h' : i < m.length), sameT l[i] m[i] = true
  | [], m, i, _, h, _ => by simp at h
  | _ :: _, [], i, _, _, h => by simp at h
  | x :: l, y :: m, 0, hs, _, _ => by rw [sameTL, Bool.and_eq_true] at hs; exact hs.1
  | x :: l, y :: m, i + 1, hs, h, h' => by rw [sameTL, Bool.and_eq_true] at hs; exact sameTL_get hs.2 (by simpa using h) (by simpa using h')
theorem sameTL_miss {l m : List Tr} {i : Nat} (h : i < l.length) (h' : i < m.length) (hb : sameT l[i] m[i] = false) : sameTL l m = false := by
  rw [Bool.eq_false_iff]
  intro hs
  rw [sameTL_get hs h h'] at hb
  cases hb
theorem sameTL_ne {l m : List Tr} (h : l.length ≠ m.length) : sameTL l m = false := by
  rw [Bool.eq_false_iff]
  exact fun hs => h (sameTL_len hs)
theorem tree_sameR_ok (e : Tr) : ∀ f : Tr, e.Ok → f.Ok → Quiet Go.Proofs.Try.prog 41 [.agg (encT e), .agg (encT f)] (.bool (sameT e f)) := by
  induction e using Tr.ind with
  | h o l ih =>
  intro f hok hokf
  obtain ⟨o', m⟩ := f
  obtain ⟨hl, hlo⟩ := hok
  obtain ⟨hm, hmo⟩ := hokf
  refine quiet_of (rs := #[.tmp 4]) Go.Proofs.Try.func41 rfl rfl rfl mixed rfl rfl fun H hs => ?_
  rw [sameT]
  push_cast -implicitDefEqProofs [eq_self, iff_self, lits, cellsEq, cellEq]
  refine ⟨fun h => ?_, fun h => ?_⟩
  · (try push_cast -implicitDefEqProofs [eq_self, iff_self])
    by_cases hlm : l.length = m.length
    · have : decide (o = o') = false := by grind
      rw [this]; rfl
    · rw [sameTL_ne hlm, Bool.and_false]
  have hlm : l.length = m.length := by grind
  have hhd : decide (o = o') = true := by grind
  rw [hhd, Bool.true_and]
  refine loop_at hs (σ := Nat) (fun i => i ≤ l.length ∧ ∀ (j : Nat) (h : j < l.length) (h' : j < m.length), j < i → sameT l[j] m[j] = true) (fun i => l.length - i)
    (fun i => [(2, .ptr (H.nxt + 0) 2 0 0), (3, .ptr (H.nxt + 1) 2 0 0), (5, .int i)]) (fun _ => [some (.cells 2 [encT (.mk o l)] 0), some (.cells 2 [encT (.mk o' m)] 0)]) [some 0, some 1] 0 ⟨by omega, fun j _ _ h => by omega⟩ rfl ?_ ?_ ?_
  · (try push_cast -implicitDefEqProofs [eq_self, iff_self])
  · (try push_cast -implicitDefEqProofs [eq_self, iff_self])
  · rintro i ⟨h2, h3⟩
    by_cases hi : i < l.length
    · have him : i < m.length := by omega
      have hi' : ((i : Int) < (l.length : Int)) = True := by simp; omega
      have hi2 : ((i : Int) < (m.length : Int)) = True := by simp; omega
      have hi0 : (0 ≤ (i : Int)) = True := by simp
      push_cast -implicitDefEqProofs [eq_self, iff_self, hi', hi2, hi0]
      refine areg_at 12 (by kernel_rfl) (by kernel_rfl) ?_
      have hcc := ih _ (List.getElem_mem hi) _ (hlo _ (List.getElem_mem hi)) (hmo _ (List.getElem_mem him))
      push_cast -implicitDefEqProofs [eq_self, iff_self, hi', hi2, hi0, encTs_get l i hi, encTs_get m i him]
      refine ahdq hcc ?_
      push_cast -implicitDefEqProofs [eq_self, iff_self]
      refine ⟨fun hb => ?_, fun hb => ?_⟩
      · (try push_cast -implicitDefEqProofs [eq_self, iff_self])
        exact (sameTL_miss hi him hb).symm
      · rw [wrap64 (n := (i : Int) + 1) (by omega) (by omega)]
        refine next_at [some 0, some 1] (i + 1) ⟨by omega, fun j hj hj' hji => ?_⟩ (by omega) rfl ?_ ?_
        · rcases Nat.lt_or_ge j i with h4 | h4
          · exact h3 j hj hj' h4
          · obtain rfl : j = i := by omega
            exact hb
        · (try push_cast -implicitDefEqProofs [eq_self, iff_self])
        · (try push_cast -implicitDefEqProofs [eq_self, iff_self])
    · have hi' : ((i : Int) < (l.length : Int)) = False := by simp; omega
      push_cast -implicitDefEqProofs [eq_self, iff_self, hi']
      (try push_cast -implicitDefEqProofs [eq_self, iff_self])
      exact (sameTL_all hlm fun j hj hj' => h3 j hj hj' (by omega)).symm
theorem sealLL_snoc {π : Nat → Option Nat} {H H' : AH} {v u : List AV} : ∀ {vs us : List (List AV)}, SealLL π H H' vs us → SealL π H H' v u → SealLL π H H' (vs ++ [v]) (us ++ [u])
  | [], [], _, h => by rw [List.nil_append, List.nil_append, slll_cons, slll_nil]; exact ⟨h, trivial⟩
  | a :: vs, b :: us, h0, h => by
    rw [slll_cons] at h0
    rw [List.cons_append, List.cons_append, slll_cons]
    exact ⟨h0.1, sealLL_snoc h0.2 h⟩
  | [], b :: us, h0, _ => by simp [SealLL] at h0
  | a :: vs, [], h0, _ => by simp [SealLL] at h0
end
section
def leafSet (s : Int) : List Tr := ((List.range 4).filter fun (o : Nat) => decide (s = 2 ^ o)).map fun (o : Nat) => Tr.leaf (o : Int)
def cutT (f : Int → List Tr) (s a : Int) : List Tr := if (decide (a < s) && decide (band .i64 a s = a)) = true then (f a).flatMap fun x => (f (s - a)).map fun y => Tr.join x y else []
def allT : Nat → Int → List Tr
  | 0, _ => []
  | d + 1, s => if 1 ≤ s ∧ s < 16 then leafSet s ++ (List.range 15).flatMap fun (k : Nat) => cutT (allT d) s ((k : Int) + 1) else []
end
section
theorem setT_join {d : Nat} {x y : Tr} (h : (setT (d + 1) (.join x y)).2 = true) : (setT d x).2 = true ∧ (setT d y).2 = true ∧ band .i64 (setT d x).1 (setT d y).1 = 0 := by
  rw [Tr.join, setT_two, if_pos rfl] at h
  simp only [Bool.and_eq_true, decide_eq_true_eq] at h
  exact ⟨h.1.1, h.1.2, h.2⟩
theorem tr_form {d : Nat} {t : Tr} (h : (setT (d + 1) t).2 = true) : (∃ o, t = .leaf o) ∨ ∃ a b, t = .join a b := by
  obtain ⟨o, l⟩ := t
  match l, h with
  | [], _ => exact .inl ⟨o, rfl⟩
  | [a], h => rw [setT_one] at h; cases h
  | [a, b], h =>
    rw [setT_two] at h
    by_cases ho : o = 0
    · subst ho; exact .inr ⟨a, b, rfl⟩
    · rw [if_neg ho] at h; cases h
  | a :: b :: e :: l, h => rw [setT_more] at h; cases h
theorem cut16 {a b : Int} (a0 : 1 ≤ a) (a1 : a ≤ 15) (b0 : 1 ≤ b) (b1 : b ≤ 15) (h : band .i64 a b = 0) : bor .i64 a b = a + b ∧ a + b ≤ 15 ∧ band .i64 a (a + b) = a := by
  obtain ⟨i, rfl⟩ : ∃ i : Fin 16, a = (i.val : Int) := ⟨⟨a.toNat, by omega⟩, by simp; omega⟩
  obtain ⟨j, rfl⟩ : ∃ j : Fin 16, b = (j.val : Int) := ⟨⟨b.toNat, by omega⟩, by simp; omega⟩
  clear a0 a1 b0 b1
  revert i j
  decide +kernel
theorem uncut16 {a s : Int} (a0 : 1 ≤ a) (s1 : s ≤ 15) (h : a < s) (hb : band .i64 a s = a) : band .i64 a (s - a) = 0 ∧ bor .i64 a (s - a) = s := by
  obtain ⟨i, rfl⟩ : ∃ i : Fin 16, a = (i.val : Int) := ⟨⟨a.toNat, by omega⟩, by simp; omega⟩
  obtain ⟨j, rfl⟩ : ∃ j : Fin 16, s = (j.val : Int) := ⟨⟨s.toNat, by omega⟩, by simp; omega⟩
  clear a0 s1
  revert i j
  decide +kernel
theorem setT_pos : ∀ (d : Nat) (t : Tr), (setT d t).2 = true → 1 ≤ (setT d t).1
  | 0, _, h => by simp [setT] at h
  | d + 1, t, h => by
    rcases tr_form h with ⟨o, rfl⟩ | ⟨a, b, rfl⟩
    · rw [Tr.leaf, setT_nil]
      have h1 := tmod4 o
      have := pow2_cases (n := (max (o.tmod 4) 0).toNat) (by omega)
      dsimp only
      omega
    · obtain ⟨ha, hb, h0⟩ := setT_join h
      have pa := setT_pos d a ha
      have pb := setT_pos d b hb
      have ra := setT_range d a
      have rb := setT_range d b
      rw [Tr.join, setT_two, if_pos rfl]
      have := cut16 pa ra.2 pb rb.2 h0
      dsimp only
      omega
theorem leafSet_mem {s : Int} {t : Tr} : t ∈ leafSet s ↔ ∃ o : Nat, o < 4 ∧ s = 2 ^ o ∧ t = .leaf (o : Int) := by
  unfold leafSet
  simp only [List.mem_map, List.mem_filter, List.mem_range, decide_eq_true_eq]
  constructor
  · rintro ⟨o, ⟨h1, h2⟩, rfl⟩; exact ⟨o, h1, h2, rfl⟩
  · rintro ⟨o, h1, h2, rfl⟩; exact ⟨o, ⟨h1, h2⟩, rfl⟩
theorem cutT_mem {f : Int → List Tr} {s a : Int} {t : Tr} : t ∈ cutT f s a ↔ (a < s ∧ band .i64 a s = a) ∧ ∃ x ∈ f a, ∃ y ∈ f (s - a), t = .join x y := by
  unfold cutT
  simp only [Bool.and_eq_true, decide_eq_true_eq]
  split
  · rename_i h
    simp only [List.mem_flatMap, List.mem_map]
    constructor
    · rintro ⟨x, hx, y, hy, rfl⟩; exact ⟨h, x, hx, y, hy, rfl⟩
    · rintro ⟨_, x, hx, y, hy, rfl⟩; exact ⟨x, hx, y, hy, rfl⟩
  · rename_i h
    constructor
    · intro h; cases h
    · rintro ⟨h2, _⟩; exact absurd h2 h
theorem allT_mem : ∀ (d : Nat) (s : Int) (t : Tr), t ∈ allT d s ↔ (setT d t).2 = true ∧ (setT d t).1 = s
  | 0, s, t => by simp [allT, setT]
  | d + 1, s, t => by
    rw [allT]
    constructor
    · intro h
      split at h
      · rename_i hs
        rcases List.mem_append.1 h with h | h
        · obtain ⟨o, ho, rfl, rfl⟩ := leafSet_mem.1 h
          rw [Tr.leaf, setT_nil]
          have hc : o = 0 ∨ o = 1 ∨ o = 2 ∨ o = 3 := by omega
          rcases hc with rfl | rfl | rfl | rfl <;> decide
        · obtain ⟨k, _, hk⟩ := List.mem_flatMap.1 h
          obtain ⟨⟨h1, h2⟩, x, hx, y, hy, rfl⟩ := cutT_mem.1 hk
          obtain ⟨x1, x2⟩ := (allT_mem d _ x).1 hx
          obtain ⟨y1, y2⟩ := (allT_mem d _ y).1 hy
          have hu := uncut16 (a := (k : Int) + 1) (s := s) (by omega) (by omega) h1 h2
          rw [Tr.join, setT_two, if_pos rfl, x1, x2, y1, y2, hu.1, hu.2]
          exact ⟨rfl, rfl⟩
      · cases h
    · rintro ⟨h1, h2⟩
      have hp := setT_pos _ _ h1
      have hr := setT_range (d + 1) t
      rw [h2] at hp hr
      rw [if_pos ⟨hp, by omega⟩]
      rcases tr_form h1 with ⟨o, rfl⟩ | ⟨a, b, rfl⟩
      · refine List.mem_append.2 (.inl (leafSet_mem.2 ?_))
        rw [Tr.leaf, setT_nil] at h1 h2
        simp only [Bool.and_eq_true, decide_eq_true_eq] at h1
        refine ⟨o.toNat, by omega, ?_, by rw [Int.toNat_of_nonneg h1.1]⟩
        dsimp only at h2
        rw [← h2]
        have hc : o = 0 ∨ o = 1 ∨ o = 2 ∨ o = 3 := by omega
        rcases hc with rfl | rfl | rfl | rfl <;> decide
      · obtain ⟨ha, hb, h0⟩ := setT_join h1
        have pa := setT_pos d a ha
        have pb := setT_pos d b hb
        have ra := setT_range d a
        have rb := setT_range d b
        have hc := cut16 pa ra.2 pb rb.2 h0
        rw [Tr.join, setT_two, if_pos rfl] at h2
        dsimp only at h2
        rw [hc.1] at h2
        refine List.mem_append.2 (.inr (List.mem_flatMap.2 ⟨((setT d a).1 - 1).toNat, List.mem_range.2 (by omega), ?_⟩))
        have e : ((((setT d a).1 - 1).toNat : Nat) : Int) + 1 = (setT d a).1 := by omega
        rw [e]
        refine cutT_mem.2 ⟨⟨by omega, by rw [← h2]; exact hc.2.2⟩, a, (allT_mem d _ a).2 ⟨ha, rfl⟩, b, (allT_mem d _ b).2 ⟨hb, by omega⟩, rfl⟩
end
section
attribute [local push_cast] encT_mk encT_take encT_len encT_one encTs_pure encT_pure
def dgT (o : Int) : ByteArray := Utf8.encode (IntKind.wrap .i32 (IntKind.wrap .i64 (48 + o)))
theorem dg_ok (o : Int) : Quiet Go.Proofs.Try.prog 73 [.agg (encT (Tr.leaf o))] (.lit (.string (dgT o))) := by
  rw [Tr.leaf, encT_mk]
  refine quiet_of (rs := #[.tmp 2]) Go.Proofs.Try.func73 rfl rfl rfl mixed rfl rfl fun H hs => ?_
  push_cast -implicitDefEqProofs [eq_self, iff_self, dgT, List.map_nil, List.length_nil]
def jnT (a b : ByteArray) : ByteArray := (⟨#[40]⟩ : ByteArray) ++ a ++ b ++ (⟨#[41]⟩ : ByteArray)
theorem jnT_size (a b : ByteArray) : (jnT a b).size = a.size + b.size + 2 := by
  have h1 : (⟨#[40]⟩ : ByteArray).size = 1 := rfl
  have h2 : (⟨#[41]⟩ : ByteArray).size = 1 := rfl
  simp only [jnT, ByteArray.size_append]
  omega
theorem jn_ok (a b : Tr) (x y : ByteArray) (hx : x.size ≤ 100) (hy : y.size ≤ 100) (h1 : Quiet Go.Proofs.Try.prog 73 [.agg (encT a)] (.lit (.string x))) (h2 : Quiet Go.Proofs.Try.prog 73 [.agg (encT b)] (.lit (.string y))) : Quiet Go.Proofs.Try.prog 73 [.agg (encT (Tr.join a b))] (.lit (.string (jnT x y))) := by
  rw [Tr.join, encT_mk]
  refine quiet_of (rs := #[.tmp 2]) Go.Proofs.Try.func73 rfl rfl rfl mixed rfl rfl fun H hs => ?_
  push_cast -implicitDefEqProofs [eq_self, iff_self, List.map_cons, List.map_nil, List.length_cons, List.length_nil]
  refine areg_at 14 (by kernel_rfl) (by kernel_rfl) ?_
  push_cast -implicitDefEqProofs [eq_self, iff_self, encT_pure, encT_len, encT_one, encT_take]
  refine ahdq h1 ?_
  push_cast -implicitDefEqProofs [eq_self, iff_self, encT_pure, encT_len, encT_one, encT_take, astr]
  refine ⟨?_, ahdq h2 ?_⟩
  · have : (⟨#[40]⟩ : ByteArray).size = 1 := rfl
    omega
  push_cast -implicitDefEqProofs [eq_self, iff_self, encT_pure, encT_len, encT_one, encT_take, astr, jnT, ByteArray.size_append]
  have : (⟨#[40]⟩ : ByteArray).size = 1 := rfl
  have : (⟨#[41]⟩ : ByteArray).size = 1 := rfl
  omega
def txt : Nat → Tr → ByteArray
  | 0, _ => ByteArray.empty
  | d + 1, .mk o l =>
    match l with
    | [a, b] => jnT (txt d a) (txt d b)
    | _ => dgT o
theorem dgT_size (o : Int) (h0 : 0 ≤ o) (h1 : o < 4) : (dgT o).size = 1 := by
  have hc : o = 0 ∨ o = 1 ∨ o = 2 ∨ o = 3 := by omega
  rcases hc with rfl | rfl | rfl | rfl <;> decide +kernel
theorem txt_ok : ∀ (d : Nat) (t : Tr), d ≤ 4 → (setT d t).2 = true → Quiet Go.Proofs.Try.prog 73 [.agg (encT t)] (.lit (.string (txt d t))) ∧ (txt d t).size + 2 ≤ 3 * 2 ^ d
  | 0, _, _, h => by simp [setT] at h
  | d + 1, t, hd, h => by
    have hp : 1 ≤ 2 ^ d := Nat.one_le_two_pow
    have h16 : 2 ^ d ≤ 16 := Nat.le_trans (Nat.pow_le_pow_right (by decide) (show d ≤ 4 by omega)) (by decide)
    rcases tr_form h with ⟨o, rfl⟩ | ⟨a, b, rfl⟩
    · rw [Tr.leaf, setT_nil] at h
      simp only [Bool.and_eq_true, decide_eq_true_eq] at h
      refine ⟨dg_ok o, ?_⟩
      show (dgT o).size + 2 ≤ _
      rw [dgT_size o h.1 h.2, Nat.pow_succ]
      omega
    · obtain ⟨ha, hb, _⟩ := setT_join h
      obtain ⟨a1, a2⟩ := txt_ok d a (by omega) ha
      obtain ⟨b1, b2⟩ := txt_ok d b (by omega) hb
      refine ⟨jn_ok a b _ _ (by omega) (by omega) a1 b1, ?_⟩
      show (jnT _ _).size + 2 ≤ _
      rw [jnT_size, Nat.pow_succ]
      omega
theorem TextT_ok (t : Tr) (ht : t.Ok) (hm : t.may = true) : Quiet Go.Proofs.Try.prog 43 [.agg (encT t)] (.lit (.string (txt 4 t))) := by
  have h1 := MayT_ok t ht
  have h2 := (txt_ok 4 t (by decide) hm).1
  rw [hm] at h1
  refine quiet_of (rs := #[.tmp 2]) Go.Proofs.Try.func43 rfl rfl rfl mixed rfl rfl fun H hs => ?_
  push_cast -implicitDefEqProofs [eq_self, iff_self]
  refine callq h1 ?_
  push_cast -implicitDefEqProofs [eq_self, iff_self]
  refine callq h2 ?_
  push_cast -implicitDefEqProofs [eq_self, iff_self]
end
section
theorem setT_up : ∀ (d : Nat) (t : Tr), (setT d t).2 = true → setT (d + 1) t = setT d t
  | 0, _, h => by simp [setT] at h
  | d + 1, t, h => by
    rcases tr_form h with ⟨o, rfl⟩ | ⟨a, b, rfl⟩
    · rfl
    · obtain ⟨ha, hb, _⟩ := setT_join h
      rw [Tr.join, setT_two, setT_two, setT_up d a ha, setT_up d b hb]
theorem setT_to4 : ∀ {d : Nat} {t : Tr}, d ≤ 4 → (setT d t).2 = true → t.may = true := by
  intro d t hd h
  have : ∀ n, (setT (d + n) t).2 = true := by
    intro n
    induction n with
    | zero => exact h
    | succ n ih => rw [← Nat.add_assoc, setT_up _ _ ih]; exact ih
  have h4 := this (4 - d)
  rw [Nat.add_sub_cancel' hd] at h4
  exact h4
theorem dg_list {o : Int} (h0 : 0 ≤ o) (h1 : o < 4) : (dgT o).data.toList = [UInt8.ofNat (48 + o.toNat)] := by
  have hc : o = 0 ∨ o = 1 ∨ o = 2 ∨ o = 3 := by omega
  rcases hc with rfl | rfl | rfl | rfl <;> decide +kernel
theorem jn_list (a b : ByteArray) : (jnT a b).data.toList = 40 :: (a.data.toList ++ (b.data.toList ++ [41])) := by
  simp [jnT]
theorem txt_pre : ∀ (d : Nat) (s t : Tr) (u v : List UInt8), (setT d s).2 = true → (setT d t).2 = true → (txt d s).data.toList ++ u = (txt d t).data.toList ++ v → s = t ∧ u = v
  | 0, _, _, _, _, h, _, _ => by simp [setT] at h
  | d + 1, s, t, u, v, h1, h2, h => by
    rcases tr_form h1 with ⟨o, rfl⟩ | ⟨a, b, rfl⟩ <;> rcases tr_form h2 with ⟨p, rfl⟩ | ⟨x, y, rfl⟩
    · rw [Tr.leaf, setT_nil] at h1 h2
      simp only [Bool.and_eq_true, decide_eq_true_eq] at h1 h2
      change (dgT o).data.toList ++ u = (dgT p).data.toList ++ v at h
      rw [dg_list h1.1 h1.2, dg_list h2.1 h2.2, List.singleton_append, List.singleton_append, List.cons.injEq] at h
      have hc : o = 0 ∨ o = 1 ∨ o = 2 ∨ o = 3 := by omega
      have hd : p = 0 ∨ p = 1 ∨ p = 2 ∨ p = 3 := by omega
      refine ⟨?_, h.2⟩
      have h3 := h.1
      revert h3
      rcases hc with rfl | rfl | rfl | rfl <;> rcases hd with rfl | rfl | rfl | rfl <;> first | (intro _; rfl) | (intro h; exfalso; revert h; decide)
    · exfalso
      rw [Tr.leaf, setT_nil] at h1
      simp only [Bool.and_eq_true, decide_eq_true_eq] at h1
      change (dgT o).data.toList ++ u = (jnT (txt d x) (txt d y)).data.toList ++ v at h
      rw [dg_list h1.1 h1.2, jn_list, List.singleton_append, List.cons_append, List.cons.injEq] at h
      have hc : o = 0 ∨ o = 1 ∨ o = 2 ∨ o = 3 := by omega
      have h3 := h.1
      revert h3
      rcases hc with rfl | rfl | rfl | rfl <;> decide
    · exfalso
      rw [Tr.leaf, setT_nil] at h2
      simp only [Bool.and_eq_true, decide_eq_true_eq] at h2
      change (jnT (txt d a) (txt d b)).data.toList ++ u = (dgT p).data.toList ++ v at h
      rw [dg_list h2.1 h2.2, jn_list, List.singleton_append, List.cons_append, List.cons.injEq] at h
      have hc : p = 0 ∨ p = 1 ∨ p = 2 ∨ p = 3 := by omega
      have h3 := h.1
      revert h3
      rcases hc with rfl | rfl | rfl | rfl <;> decide
    · obtain ⟨a1, b1, _⟩ := setT_join h1
      obtain ⟨x1, y1, _⟩ := setT_join h2
      change (jnT (txt d a) (txt d b)).data.toList ++ u = (jnT (txt d x) (txt d y)).data.toList ++ v at h
      rw [jn_list, jn_list, List.cons_append, List.cons_append, List.cons.injEq, List.append_assoc, List.append_assoc, List.append_assoc, List.append_assoc] at h
      obtain ⟨rfl, h3⟩ := txt_pre d a x _ _ a1 x1 h.2
      obtain ⟨rfl, h4⟩ := txt_pre d b y _ _ b1 y1 h3
      rw [List.singleton_append, List.singleton_append, List.cons.injEq] at h4
      exact ⟨rfl, h4.2⟩
theorem txt_inj {s t : Tr} (hs : s.may = true) (ht : t.may = true) (h : txt 4 s = txt 4 t) : s = t := (txt_pre 4 s t [] [] hs ht (by rw [h])).1
end
section
theorem may_okT : ∀ (d : Nat) (t : Tr), (setT d t).2 = true → t.Ok
  | 0, _, h => by simp [setT] at h
  | d + 1, t, h => by
    rcases tr_form h with ⟨o, rfl⟩ | ⟨a, b, rfl⟩
    · exact .mk (by simp) (by simp)
    · obtain ⟨ha, hb, _⟩ := setT_join h
      refine .mk (by simp) fun x hx => ?_
      simp only [List.mem_cons, List.not_mem_nil, or_false] at hx
      rcases hx with rfl | rfl
      · exact may_okT d _ ha
      · exact may_okT d _ hb
theorem may_ok {t : Tr} (h : t.may = true) : t.Ok := may_okT 4 t h
theorem ok_join {a b : Tr} (ha : a.Ok) (hb : b.Ok) : (Tr.join a b).Ok := by
  refine .mk (by simp) fun x hx => ?_
  simp only [List.mem_cons, List.not_mem_nil, or_false] at hx
  rcases hx with rfl | rfl
  · exact ha
  · exact hb
theorem nodup_sub {α : Type} : ∀ {l m : List α}, l.Nodup → (∀ x ∈ l, x ∈ m) → l.length ≤ m.length
  | [], m, _, _ => Nat.zero_le _
  | x :: l, m, h, hs => by
    rw [List.nodup_cons] at h
    obtain ⟨m1, m2, rfl⟩ := List.append_of_mem (hs x (.head _))
    have := nodup_sub (l := l) (m := m1 ++ m2) h.2 fun y hy => by
      have hy2 := hs y (.tail _ hy)
      simp only [List.mem_append, List.mem_cons] at hy2 ⊢
      rcases hy2 with h1 | rfl | h1
      · exact .inl h1
      · exact absurd hy h.1
      · exact .inr h1
    simp only [List.length_append, List.length_cons] at this ⊢
    omega
def allTs : List Tr := (List.range 16).flatMap fun (s : Nat) => allT 4 (s : Int)
theorem allTs_len : allTs.length = 184 := by decide +kernel
theorem mem_allTs {t : Tr} (h : t.may = true) : t ∈ allTs := by
  have hr := setT_range 4 t
  rw [allTs, List.mem_flatMap]
  refine ⟨(setT 4 t).1.toNat, List.mem_range.2 (by omega), ?_⟩
  rw [Int.toNat_of_nonneg hr.1]
  exact (allT_mem 4 _ t).2 ⟨h, rfl⟩
def GoodL (L : List Tr) : Prop := L.Nodup ∧ ∀ t ∈ L, t.may = true
theorem GoodL.nil : GoodL [] := ⟨List.nodup_nil, fun t h => by cases h⟩
theorem GoodL.len {L : List Tr} (h : GoodL L) : L.length ≤ 184 := by
  rw [← allTs_len]
  exact nodup_sub h.1 fun t ht => mem_allTs (h.2 t ht)
open Classical in
noncomputable def addM (L : List Tr) (t : Tr) : List Tr := if t ∈ L then L else L ++ [t]
theorem mem_addM {L : List Tr} {t x : Tr} : x ∈ addM L t ↔ x ∈ L ∨ x = t := by
  unfold addM
  split
  · rename_i h
    constructor
    · exact .inl
    · rintro (h1 | rfl)
      · exact h1
      · exact h
  · rw [List.mem_append, List.mem_singleton]
theorem GoodL.add {L : List Tr} (h : GoodL L) {t : Tr} (ht : t.may = true) : GoodL (addM L t) := by
  refine ⟨?_, fun x hx => ?_⟩
  · unfold addM
    split
    · exact h.1
    · rename_i hn
      rw [List.nodup_append]
      exact ⟨h.1, by simp, fun x hx y hy => by obtain rfl := List.mem_singleton.1 hy; exact fun e => hn (e ▸ hx)⟩
  · rcases mem_addM.1 hx with h1 | rfl
    · exact h.2 x h1
    · exact ht
def kvM (t : Tr) : Value × AV := (.string (txt 4 t), .agg (encT t))
theorem sameV_s (a b : ByteArray) : sameV (.string a) (.string b) = (a == b) := rfl
theorem kvM_kidx (k : ByteArray) : ∀ L : List Tr, kidx (.string k) ((L.map kvM).map (·.1)) = L.findIdx? fun t => k == txt 4 t
  | [] => rfl
  | t :: L => by
    rw [List.map_cons, List.map_cons, kidx, List.findIdx?_cons, kvM, sameV_s, kvM_kidx k L]
theorem kvM_put {L : List Tr} (h : GoodL L) {t : Tr} (ht : t.may = true) : aput (.string (txt 4 t)) (.agg (encT t)) (L.map kvM) = (addM L t).map kvM := by
  have hk := kvM_kidx (txt 4 t) L
  cases hi : L.findIdx? (fun x => txt 4 t == txt 4 x) with
  | none =>
    rw [hi] at hk
    rw [aput_none hk, addM, if_neg, List.map_append]
    · rfl
    · intro hm
      have := List.findIdx?_eq_none_iff.1 hi t hm
      rw [Bool.eq_false_iff] at this
      exact this ((MapKept.bytes_beq _ _).2 rfl)
  | some j =>
    rw [hi] at hk
    obtain ⟨hj, hp, _⟩ := List.findIdx?_eq_some_iff_getElem.1 hi
    have hx := (MapKept.bytes_beq _ _).1 hp
    have hxt : t = L[j] := txt_inj ht (h.2 _ (List.getElem_mem hj)) hx
    have hm : t ∈ L := hxt ▸ List.getElem_mem hj
    rw [aput_some hk, addM, if_pos hm]
    have : (L.map kvM).set j (kvM L[j]) = L.map kvM := by
      have e : (L.map kvM)[j]'(by simpa using hj) = kvM L[j] := by simp
      rw [← e]
      exact List.set_getElem_self _
    have e2 : (Value.string (txt 4 t), AV.agg (encT t)) = kvM L[j] := by rw [← hxt]; rfl
    rw [e2, this]
theorem kvM_at (k : ByteArray) (L : List Tr) : FindAt Go.Proofs.Try.prog 9 (.string k) ((L.map kvM).map (·.1)) :=
  findAt_key Go.Proofs.Try.underlying9 trivial (by
    intro v hv
    simp only [List.map_map, List.mem_map] at hv
    obtain ⟨t, _, rfl⟩ := hv
    trivial)
theorem kvM_find {L : List Tr} (h : GoodL L) {t : Tr} (ht : t ∈ L) : afind (.string (txt 4 t)) (L.map kvM) = some (.agg (encT t)) := by
  rw [afind_kidx, kvM_kidx]
  cases hi : L.findIdx? (fun x => txt 4 t == txt 4 x) with
  | none =>
    have := List.findIdx?_eq_none_iff.1 hi t ht
    rw [Bool.eq_false_iff] at this
    exact absurd ((MapKept.bytes_beq _ _).2 rfl) this
  | some j =>
    obtain ⟨hj, hp, _⟩ := List.findIdx?_eq_some_iff_getElem.1 hi
    have hx := (MapKept.bytes_beq _ _).1 hp
    have hxt : t = L[j] := txt_inj (h.2 _ ht) (h.2 _ (List.getElem_mem hj)) hx
    rw [Option.bind_some, List.getElem?_map, List.getElem?_eq_getElem hj, ← hxt]
    rfl
def rgM (m : Mm) (i : Nat) : Nat := rootN m.P (m.G.getD i 0).toNat
def raM (m : Mm) (i : Nat) : Nat := rootN m.P (m.N.getD i nd0).a.toNat
def rbM (m : Mm) (i : Nat) : Nat := rootN m.P (m.N.getD i nd0).b.toNat
def stepM (m : Mm) (S : Nat → Tr → Prop) (i : Nat) (t : Tr) : Prop :=
  if (m.N.getD i nd0).jn then ∃ x y, S (raM m i) x ∧ S (rbM m i) y ∧ t = .join x y ∧ t.may = true else t = .leaf (m.N.getD i nd0).occ
def mkT (m : Mm) : Nat → Nat → Tr → Prop
  | 0 => fun _ _ => False
  | d + 1 => fun g t => ∃ i, i < m.N.length ∧ rgM m i = g ∧ stepM m (mkT m d) i t
def mkU (m : Mm) (d e : Nat) (g : Nat) (t : Tr) : Prop := ∃ i, i < e ∧ rgM m i = g ∧ stepM m (mkT m d) i t
theorem mkU_zero (m : Mm) (d g : Nat) (t : Tr) : ¬ mkU m d 0 g t := by rintro ⟨i, h, _⟩; omega
theorem mkU_all (m : Mm) (d g : Nat) (t : Tr) : mkU m d m.N.length g t ↔ mkT m (d + 1) g t := Iff.rfl
theorem mkU_succ (m : Mm) (d e g : Nat) (t : Tr) : mkU m d (e + 1) g t ↔ mkU m d e g t ∨ (rgM m e = g ∧ stepM m (mkT m d) e t) := by
  constructor
  · rintro ⟨i, h1, h2, h3⟩
    rcases Nat.lt_succ_iff_lt_or_eq.1 h1 with h | h
    · exact .inl ⟨i, h, h2, h3⟩
    · subst h; exact .inr ⟨h2, h3⟩
  · rintro (⟨i, h1, h2, h3⟩ | ⟨h2, h3⟩)
    · exact ⟨i, by omega, h2, h3⟩
    · exact ⟨e, by omega, h2, h3⟩
def slotV : Option Nat → AV
  | some k => .mp k
  | none => .lit (.map none)
structure Slots (D : AH) (r n : Nat) (ks : Nat → Option Nat) (S : Nat → List Tr) : Prop where
  row : D.obj r = some (.cells 1 ((List.range n).map fun g => [slotV (ks g)]) 0)
  map : ∀ g k, g < n → ks g = some k → D.obj k = some (.amap ((S g).map kvM))
  nil : ∀ g, g < n → ks g = none → S g = []
  inj : ∀ g g' k, g < n → g' < n → ks g = some k → ks g' = some k → g = g'
  good : ∀ g, g < n → GoodL (S g)
theorem Slots.lt {D : AH} {r n : Nat} {ks : Nat → Option Nat} {S : Nat → List Tr} (h : Slots D r n ks S) (hl : Lw D) : r < D.nxt ∧ ∀ g k, g < n → ks g = some k → k < D.nxt :=
  ⟨hl _ _ h.row, fun g k hg hk => hl _ _ (h.map g k hg hk)⟩
theorem Slots.ne {D : AH} {r n : Nat} {ks : Nat → Option Nat} {S : Nat → List Tr} (h : Slots D r n ks S) {g k : Nat} (hg : g < n) (hk : ks g = some k) : k ≠ r := fun e => by
  have h1 := h.map g k hg hk
  rw [e, h.row] at h1
  cases h1
theorem Slots.keep {D D' : AH} {r n : Nat} {ks : Nat → Option Nat} {S : Nat → List Tr} {ex : List Nat} (h : Slots D r n ks S) (hl : Lw D) (hs : SameE ex D D') (hr : r ∉ ex) (hk : ∀ g k, g < n → ks g = some k → k ∉ ex) : Slots D' r n ks S where
  row := by rw [hs.2.2 r (h.lt hl).1 hr]; exact h.row
  map := fun g k hg hx => by rw [hs.2.2 k ((h.lt hl).2 g k hg hx) (hk g k hg hx)]; exact h.map g k hg hx
  nil := h.nil
  inj := h.inj
  good := h.good
theorem Slots.more {D D' : AH} {r n : Nat} {ks : Nat → Option Nat} {S : Nat → List Tr} {ex : List Nat} {at0 k0 : Nat} {L : List Tr} (h : Slots D r n ks S) (hl : Lw D) (hs : SameE ex D D') (hat : at0 < n) (hk0 : ks at0 = some k0) (hr : r ∉ ex)
    (hk : ∀ g k, g < n → ks g = some k → k ∈ ex → g = at0) (hL : D'.obj k0 = some (.amap (L.map kvM))) (hg : GoodL L) : Slots D' r n ks (fun g => if g = at0 then L else S g) where
  row := by rw [hs.2.2 r (h.lt hl).1 hr]; exact h.row
  map := fun g k hg' hx => by
    by_cases e : g = at0
    · subst e
      rw [hk0] at hx
      injection hx with hx
      subst hx
      rw [if_pos rfl]; exact hL
    · rw [if_neg e, hs.2.2 k ((h.lt hl).2 g k hg' hx) (fun he => e (hk g k hg' hx he))]; exact h.map g k hg' hx
  nil := fun g hg' hx => by
    by_cases e : g = at0
    · subst e; rw [hk0] at hx; cases hx
    · rw [if_neg e]; exact h.nil g hg' hx
  inj := h.inj
  good := fun g hg' => by
    by_cases e : g = at0
    · rw [if_pos e]; exact hg
    · rw [if_neg e]; exact h.good g hg'
theorem range_get {n g : Nat} (hg : g < n) (f : Nat → List AV) : ((List.range n).map f).getD g [] = f g := by
  rw [List.getD_eq_getElem?_getD, List.getElem?_map, List.getElem?_range hg]; rfl
theorem Slots.fresh {D D' : AH} {r n : Nat} {ks : Nat → Option Nat} {S : Nat → List Tr} {at0 k0 : Nat} (h : Slots D r n ks S) (hl : Lw D) (hat : at0 < n) (hno : ks at0 = none) (hk0 : D.nxt ≤ k0) (hmap : D'.obj k0 = some (.amap []))
    (hrow : D'.obj r = some (.cells 1 (((List.range n).map fun g => [slotV (ks g)]).set at0 [.mp k0]) 0)) (hs : ∀ k, k < D.nxt → k ≠ r → D'.obj k = D.obj k) : Slots D' r n (fun g => if g = at0 then some k0 else ks g) S where
  row := by
    rw [hrow]
    congr 2
    refine List.ext_getElem? fun i => ?_
    rw [List.getElem?_set, List.getElem?_map, List.getElem?_map]
    by_cases hi : i < n
    · rw [List.getElem?_range hi]
      simp only [List.length_map, List.length_range, Option.map_some]
      by_cases e : at0 = i
      · subst e; rw [if_pos rfl, if_pos hi, if_pos rfl]; rfl
      · rw [if_neg e, if_neg (Ne.symm e)]
    · rw [List.getElem?_eq_none (by simpa using hi)]
      rw [if_neg (by omega)]; rfl
  map := fun g k hg hx => by
    by_cases e : g = at0
    · rw [if_pos e] at hx
      injection hx with hx
      subst hx
      rw [e, h.nil at0 hat hno]; exact hmap
    · rw [if_neg e] at hx
      rw [hs k ((h.lt hl).2 g k hg hx) (h.ne hg hx)]; exact h.map g k hg hx
  nil := fun g hg hx => by
    by_cases e : g = at0
    · rw [if_pos e] at hx; cases hx
    · rw [if_neg e] at hx; exact h.nil g hg hx
  inj := fun g g' k hg hg' hx hx' => by
    by_cases e : g = at0 <;> by_cases e' : g' = at0
    · rw [e, e']
    · rw [if_pos e] at hx; rw [if_neg e'] at hx'
      injection hx with hx
      have := (h.lt hl).2 g' k hg' hx'
      omega
    · rw [if_neg e] at hx; rw [if_pos e'] at hx'
      injection hx' with hx'
      have := (h.lt hl).2 g k hg hx
      omega
    · rw [if_neg e] at hx; rw [if_neg e'] at hx'
      exact h.inj g g' k hg hg' hx hx'
  good := h.good
end
end Go.Sim.Try
namespace Go.Proofs
def Try.laysSortS_ren : Go.Shelf.Ren :=
{
  f := fun x =>
    match x with
    | 190 => 46
    | 125 => 76
    | 258 => 75
    | 128 => 110
    | 129 => 111
    | 302 => 101
    | 303 => 102
    | 304 => 103
    | 305 => 104
    | 306 => 105
    | 307 => 106
    | 308 => 107
    | 309 => 108
    | 310 => 109
    | 333 => 120
    | 329 => 121
    | 330 => 122
    | 334 => 123
    | 335 => 124
    | 336 => 125
    | 344 => 126
    | n => n,
  t := fun x =>
    match x with
    | 31 => 72
    | 9 => 9
    | 3 => 3
    | 46 => 98
    | 0 => 0
    | 51 => 119
    | 53 => 121
    | 4 => 4
    | 183 => 113
    | 182 => 112
    | 131 => 52
    | 5 => 5
    | 218 => 129
    | 222 => 133
    | 228 => 136
    | 229 => 37
    | n => n,
  g := fun x => x }
theorem Try.laysSortS : Go.Proofs.Lays.n190 Go.Proofs.Try.prog Go.Proofs.Try.laysSortS_ren := {
  mixed := (by kernel_rfl),
  f125 := Eq.trans Go.Proofs.Try.func76 ((by kernel_rfl)),
  f128 := Eq.trans Go.Proofs.Try.func110 ((by kernel_rfl)),
  f129 := Eq.trans Go.Proofs.Try.func111 ((by kernel_rfl)),
  f190 := Eq.trans Go.Proofs.Try.func46 ((by kernel_rfl)),
  f258 := Eq.trans Go.Proofs.Try.func75 ((by kernel_rfl)),
  f302 := Eq.trans Go.Proofs.Try.func101 ((by kernel_rfl)),
  f303 := Eq.trans Go.Proofs.Try.func102 ((by kernel_rfl)),
  f304 := Eq.trans Go.Proofs.Try.func103 ((by kernel_rfl)),
  f305 := Eq.trans Go.Proofs.Try.func104 ((by kernel_rfl)),
  f306 := Eq.trans Go.Proofs.Try.func105 ((by kernel_rfl)),
  f307 := Eq.trans Go.Proofs.Try.func106 ((by kernel_rfl)),
  f308 := Eq.trans Go.Proofs.Try.func107 ((by kernel_rfl)),
  f309 := Eq.trans Go.Proofs.Try.func108 ((by kernel_rfl)),
  f310 := Eq.trans Go.Proofs.Try.func109 ((by kernel_rfl)),
  f329 := Eq.trans Go.Proofs.Try.func121 ((by kernel_rfl)),
  f330 := Eq.trans Go.Proofs.Try.func122 ((by kernel_rfl)),
  f333 := Eq.trans Go.Proofs.Try.func120 ((by kernel_rfl)),
  f334 := Eq.trans Go.Proofs.Try.func123 ((by kernel_rfl)),
  f335 := Eq.trans Go.Proofs.Try.func124 ((by kernel_rfl)),
  f336 := Eq.trans Go.Proofs.Try.func125 ((by kernel_rfl)),
  f344 := Eq.trans Go.Proofs.Try.func126 ((by kernel_rfl)),
  t0 := Go.Proofs.Try.underlying0,
  a0 := Go.Proofs.Try.isAgg0,
  z0 := Go.Proofs.Try.sizeOf0,
  v0 := Go.Proofs.Try.zeroValue0,
  t3 := Go.Proofs.Try.underlying3,
  a3 := Go.Proofs.Try.isAgg3,
  z3 := Go.Proofs.Try.sizeOf3,
  v3 := Go.Proofs.Try.zeroValue3,
  t4 := Go.Proofs.Try.underlying4,
  a4 := Go.Proofs.Try.isAgg4,
  z4 := Go.Proofs.Try.sizeOf4,
  v4 := Go.Proofs.Try.zeroValue4,
  t5 := Go.Proofs.Try.underlying5,
  a5 := Go.Proofs.Try.isAgg5,
  z5 := Go.Proofs.Try.sizeOf5,
  v5 := Go.Proofs.Try.zeroValue5,
  t9 := Go.Proofs.Try.underlying9,
  a9 := Go.Proofs.Try.isAgg9,
  z9 := Go.Proofs.Try.sizeOf9,
  v9 := Go.Proofs.Try.zeroValue9,
  t31 := Go.Proofs.Try.underlying72,
  a31 := Go.Proofs.Try.isAgg72,
  z31 := Go.Proofs.Try.sizeOf72,
  v31 := Go.Proofs.Try.zeroValue72,
  t46 := Go.Proofs.Try.underlying98,
  a46 := Go.Proofs.Try.isAgg98,
  z46 := Go.Proofs.Try.sizeOf98,
  v46 := Go.Proofs.Try.zeroValue98,
  t51 := Go.Proofs.Try.underlying119,
  a51 := Go.Proofs.Try.isAgg119,
  z51 := Go.Proofs.Try.sizeOf119,
  v51 := Go.Proofs.Try.zeroValue119,
  t53 := Go.Proofs.Try.underlying121,
  a53 := Go.Proofs.Try.isAgg121,
  z53 := Go.Proofs.Try.sizeOf121,
  v53 := Go.Proofs.Try.zeroValue121,
  t131 := Go.Proofs.Try.underlying52,
  a131 := Go.Proofs.Try.isAgg52,
  z131 := Go.Proofs.Try.sizeOf52,
  v131 := Go.Proofs.Try.zeroValue52,
  t182 := Go.Proofs.Try.underlying112,
  a182 := Go.Proofs.Try.isAgg112,
  z182 := Go.Proofs.Try.sizeOf112,
  v182 := Go.Proofs.Try.zeroValue112,
  t183 := Go.Proofs.Try.underlying113,
  a183 := Go.Proofs.Try.isAgg113,
  z183 := Go.Proofs.Try.sizeOf113,
  v183 := Go.Proofs.Try.zeroValue113,
  t218 := Go.Proofs.Try.underlying129,
  a218 := Go.Proofs.Try.isAgg129,
  z218 := Go.Proofs.Try.sizeOf129,
  v218 := Go.Proofs.Try.zeroValue129,
  t222 := Go.Proofs.Try.underlying133,
  a222 := Go.Proofs.Try.isAgg133,
  z222 := Go.Proofs.Try.sizeOf133,
  v222 := Go.Proofs.Try.zeroValue133,
  t228 := Go.Proofs.Try.underlying136,
  a228 := Go.Proofs.Try.isAgg136,
  z228 := Go.Proofs.Try.sizeOf136,
  v228 := Go.Proofs.Try.zeroValue136,
  t229 := Go.Proofs.Try.underlying37,
  a229 := Go.Proofs.Try.isAgg37,
  z229 := Go.Proofs.Try.sizeOf37,
  v229 := Go.Proofs.Try.zeroValue37 }
end Go.Proofs
namespace Go.Sim.Try
open Go Go.Sim
section
def tb (t : Tr) : List UInt8 := (txt 4 t).data.toList
theorem tb_enc (t : Tr) : Go.Proofs.encStr (tb t) = .string (txt 4 t) := by
  show Value.string ⟨(txt 4 t).data.toList.toArray⟩ = _
  rw [Array.toArray_toList]
theorem tb_inj {a b : Tr} (ha : a.may = true) (hb : b.may = true) (h : tb a = tb b) : a = b := by
  refine txt_inj ha hb ?_
  have h1 : (txt 4 a).data = (txt 4 b).data := Array.toList_inj.1 h
  cases h2 : txt 4 a; cases h3 : txt 4 b
  rw [h2, h3] at h1
  exact congrArg _ h1
noncomputable def sortM (L : List Tr) : List Tr := L.mergeSort fun a b => decide (tb a ≤ tb b)
theorem sortM_map (L : List Tr) : (sortM L).map tb = (L.map tb).mergeSort fun x y => decide (x ≤ y) := List.map_mergeSort fun _ _ _ _ => rfl
theorem sortM_mem {L : List Tr} {t : Tr} : t ∈ sortM L ↔ t ∈ L := List.mem_mergeSort
theorem sortB_pw (l : List (List UInt8)) : (l.mergeSort fun x y => decide (x ≤ y)).Pairwise (· ≤ ·) := by
  have := List.pairwise_mergeSort (le := fun x y : List UInt8 => decide (x ≤ y)) (fun a b c h1 h2 => by simp only [decide_eq_true_eq] at h1 h2 ⊢; exact List.le_trans h1 h2) (fun a b => by simp only [Bool.or_eq_true, decide_eq_true_eq]; exact List.le_total a b) l
  exact this.imp fun h => by simpa using h
theorem sortB_perm {l m : List (List UInt8)} (h : l.Perm m) : (l.mergeSort fun x y => decide (x ≤ y)) = m.mergeSort fun x y => decide (x ≤ y) :=
  List.Perm.eq_of_pairwise (fun a b _ _ h1 h2 => List.le_antisymm h1 h2) (sortB_pw l) (sortB_pw m) ((List.mergeSort_perm _ _).trans (h.trans (List.mergeSort_perm _ _).symm))
theorem map_tb_inj : ∀ {a b : List Tr}, (∀ t ∈ a, t.may = true) → (∀ t ∈ b, t.may = true) → a.map tb = b.map tb → a = b
  | [], [], _, _, _ => rfl
  | [], _ :: _, _, _, h => by cases h
  | _ :: _, [], _, _, h => by cases h
  | x :: a, y :: b, ha, hb, h => by
    injection h with h1 h2
    rw [tb_inj (ha _ (.head _)) (hb _ (.head _)) h1, map_tb_inj (fun t ht => ha t (.tail _ ht)) (fun t ht => hb t (.tail _ ht)) h2]
theorem sortM_perm {l m : List Tr} (hl : ∀ t ∈ l, t.may = true) (h : l.Perm m) : sortM l = sortM m := by
  refine map_tb_inj (fun t ht => hl t (sortM_mem.1 ht)) (fun t ht => hl t (h.mem_iff.2 (sortM_mem.1 ht))) ?_
  rw [sortM_map, sortM_map]
  exact sortB_perm (h.map _)
open Classical in
noncomputable def treesM (m : Mm) (g : Int) : List Tr := if m.may = true ∧ 0 ≤ g ∧ g < m.P.length then sortM (allTs.filter fun t => decide (mkT m 4 (rootN m.P g.toNat) t)) else []
theorem treesM_out {m : Mm} {g : Int} (h : ¬ (m.may = true ∧ 0 ≤ g ∧ g < m.P.length)) : treesM m g = [] := by rw [treesM, if_neg h]
def cdT : Nat → Tr → List Int
  | 0, _ => []
  | d + 1, .mk o l => o :: l.length :: l.flatMap (cdT d)
theorem allTs_nodup : allTs.Nodup := by
  have h : (allTs.map (cdT 4)).Nodup := by decide +kernel
  exact (List.pairwise_map.1 h).imp fun h e => h (congrArg _ e)
theorem allTs_may {t : Tr} (h : t ∈ allTs) : t.may = true := by
  rw [allTs, List.mem_flatMap] at h
  obtain ⟨s, _, h⟩ := h
  exact ((allT_mem 4 _ t).1 h).1
open Classical in
theorem treesM_mem {m : Mm} {g : Int} {t : Tr} : t ∈ treesM m g ↔ (m.may = true ∧ 0 ≤ g ∧ g < m.P.length) ∧ t.may = true ∧ mkT m 4 (rootN m.P g.toNat) t := by
  unfold treesM
  split
  · rename_i h
    rw [sortM_mem, List.mem_filter, decide_eq_true_eq]
    exact ⟨fun ⟨h1, h2⟩ => ⟨h, allTs_may h1, h2⟩, fun ⟨_, h1, h2⟩ => ⟨mem_allTs h1, h2⟩⟩
  · rename_i h
    exact ⟨(fun h1 => by cases h1), fun h1 => absurd h1.1 h⟩
open Classical in
theorem treesM_eq {m : Mm} {g : Nat} (h : m.may = true ∧ g < m.P.length) {L : List Tr} (hL : GoodL L) (hm : ∀ t, t ∈ L ↔ mkT m 4 (rootN m.P g) t) : treesM m g = sortM L := by
  rw [treesM, if_pos ⟨h.1, by omega, by omega⟩]
  refine sortM_perm (fun t ht => allTs_may (List.mem_filter.1 ht).1) ?_
  refine (List.perm_ext_iff_of_nodup ?_ hL.1).2 fun t => ?_
  · exact allTs_nodup.filter _
  · rw [List.mem_filter, decide_eq_true_eq, Int.toNat_natCast, ← hm t]
    exact ⟨fun h => h.2, fun h => ⟨mem_allTs (hL.2 t h), h⟩⟩
theorem sort_seen {L : List Tr} {seen : List Nat} (h1 : seen.Nodup) (h2 : ∀ j, j ∈ seen ↔ j < L.length) (hL : ∀ t ∈ L, t.may = true) : (seen.map fun j => tb (L.getD j (.leaf 0))).mergeSort (fun x y => decide (x ≤ y)) = (sortM L).map tb := by
  rw [sortM_map]
  refine sortB_perm ?_
  have hp : seen.Perm (List.range L.length) := (List.perm_ext_iff_of_nodup h1 List.nodup_range).2 fun j => by rw [h2, List.mem_range]
  have he : L.map tb = (List.range L.length).map fun j => tb (L.getD j (.leaf 0)) := by
    refine List.ext_getElem (by simp) fun i h3 h4 => ?_
    simp at h3
    simp [h3]
  rw [he]
  exact hp.map _
end
attribute [local push_cast] aops_cons aops_nil aopG_none aopG_some aopP_eq aopE_eq aopC_eq aopE?_eq aopC?_eq aopB_eq aopB?_eq aopN_eq aopN?_eq anxt anext amrange alast amapNil abr anilq gopP_eq gopL_eq ahead_cons ahead_nil ahdG_none ahdG_some ahdP_eq ahdN_eq ahdC_eq ahdN?_eq ahdS_eq ahdS?_eq astoreN ahdC?_eq ghdP_eq ghdC_eq ghdC?_eq ghdZ_f ghdZ_t ahdI_eq ahdI?_eq ghdN?_eq aim_nil aim_cons isIn_nil isIn_none isIn_cons aimm aheP_eq aheA_eq aheC_eq aheC?_eq aheI?_eq aheA?_eq gheP_eq gheC_eq gheC?_eq gheZ_eq aheG_none aheG_some aheff_cons aheff_nil aapp gro_rsl gro_lit gro_esl opt_some opt_none no_eq acondT_true acondT_false acondT_lit abytes bytesU aw_skip aw_region aw_regionD aw_seq aw_cond aw_block aw_loop aw_exit aw_label aw_ret thn_normal thn_exit thn_ret inb_normal inb_exit inb_ret qret_ret qret_normal gcond apure aeff anew acallee ares aresT aresL aresC ares1 qfin_eq ev ofV evL gokL tget tput_some tput_none initT abin aint aun aload afaddr aiaddr afield aindex aextract apick pickv_lit Bool.or_false Bool.false_or Bool.or_true Bool.true_or imp_self aslice chunk roomB abound aconv abuild afill splice alen aminmax abuiltin anil apart Value.oneCell' astore aappend srcEs abuildSlice amakeSlice amapPut aclear aentry aestore alookup aput afind mget keyV sameV_int Option.isSome_some Option.isSome_none cond_true cond_false asets isEq plus_obj plus_nxt plus_add plus_set plus_del IntKind.bits Option.map_some Option.map_none Option.bind_some Option.bind_none Option.join_some Option.getD_some Option.getD_none Option.toList List.getElem?_toArray List.getElem?_cons_zero List.getElem?_cons_succ List.getElem?_nil List.length_cons List.length_nil List.length_map List.head?_cons List.cons_append List.nil_append List.append_nil List.map_cons List.map_nil List.getD_cons_zero List.getD_cons_succ List.replicate_succ List.replicate_zero List.set_cons_zero List.set_cons_succ List.take_succ_cons List.take_zero List.drop_succ_cons List.drop_zero List.all_cons List.all_nil Nat.zero_add if_true if_false true_and and_true false_and and_false true_implies implies_true forall_const Bool.and_true Bool.true_and Bool.false_and Bool.and_false Bool.true_beq Bool.false_beq Bool.not_not beq_tt beq_ff Int.toNat_natCast decide_true decide_false Bool.not_true Bool.not_false Bool.true_eq_false Bool.false_eq_true false_implies exists_prop eq_self bne_self_eq_false beq_self_eq_true decide_eq_true_eq decide_eq_false_iff_not Bool.not_eq_true' Bool.not_eq_false' AV.int AV.bool AV.nilS ne_eq not_false_eq_true not_true_eq_false exists_eq_left exists_eq_left' Nat.lt_irrefl core_lit grd_lit acells_lit one_lit core_agg grd_agg acells_agg one_agg core_tup grd_tup acells_tup one_tup core_sl grd_sl acells_sl one_sl core_esl grd_esl acells_esl one_esl core_rsl grd_rsl acells_rsl one_rsl core_ptr grd_ptr acells_ptr one_ptr core_iptr grd_iptr acells_iptr one_iptr core_clo grd_clo acells_clo one_clo core_mp grd_mp acells_mp one_mp core_any grd_any acells_any one_any core_gv grd_gv fit_agg fit_lit fit_sl fit_esl fit_rsl fit_ptr fit_iptr fit_clo fit_mp retq_ret retq_normal set_nxt set_set plus_obj_set plus_set_set app_get0 app_get app_set0 app_set List.append_assoc List.length_append List.length_set Nat.lt_add_one Nat.add_lt_add_iff_right Nat.lt_add_right_iff_pos Nat.add_lt_add_iff_left List.mem_cons List.not_mem_nil or_false forall_eq forall_eq_or_imp lt_s0 lt_s1 lt_s2 lt_s3 lt_s4 lt_s5 lt_s6 lt_s7 lt_s8 pickv_t pickv_f or_nand or_nand2 imp_and_l SealT SealOs sealO_cells sl_lit sl_any sl_agg sl_tup sl_sl sl_rsl slO sl_esl sl_nil sl_eslesl sl_eslnil sl_rslrsl sl_eslrsl sl_nilrsl sl_ptr sl_iptr sl_ptri slP sl_clo sl_mp sl_gv sll_nil sll_cons slll_nil slll_cons shut_eq shutO Option.join_none Fn.func.injEq and_self sealL_self sealLL_self seal_self PureL PureLL Pure Nat.le_refl Nat.zero_le AV.lit.injEq Value.int.injEq Value.bool.injEq false_or or_true true_or Int.natCast_zero Int.ofNat_zero Int.cast_ofNat_Int Int.natCast_add Int.natCast_one Option.some.injEq piL_is sop_nil sop_cons sop_none sop_some sopO_some sop_new shut_pi shutL_nil shutL_cons exQ_exit exQ_ret exQ_normal Go.Sim.Try.ty_load1 Go.Sim.Try.ty_zero1 Go.Sim.Try.ty_load2 Go.Sim.Try.ty_zero2 Go.Sim.Try.ty_und2 Go.Sim.Try.ty_load3 Go.Sim.Try.ty_zero3 Go.Sim.Try.ty_und3 Go.Sim.Try.ty_load4 Go.Sim.Try.ty_zero4 Go.Sim.Try.ty_und4 Go.Sim.Try.ty_load5 Go.Sim.Try.ty_zero5 Go.Sim.Try.ty_und5 Go.Sim.Try.ty_load9 Go.Sim.Try.ty_zero9 Go.Sim.Try.ty_und9 Go.Sim.Try.ty_load21 Go.Sim.Try.ty_zero21 Go.Sim.Try.ty_und21 Go.Sim.Try.ty_load22 Go.Sim.Try.ty_zero22 Go.Sim.Try.ty_el22 Go.Sim.Try.ty_zeroE22 Go.Sim.Try.ty_load23 Go.Sim.Try.ty_zero23 Go.Sim.Try.ty_el23 Go.Sim.Try.ty_zeroE23 Go.Sim.Try.ty_load25 Go.Sim.Try.ty_zero25 Go.Sim.Try.ty_fld25_0 Go.Sim.Try.ty_part25_0 Go.Sim.Try.ty_fld25_1 Go.Sim.Try.ty_part25_1 Go.Sim.Try.ty_fld25_2 Go.Sim.Try.ty_part25_2 Go.Sim.Try.ty_struct25 Go.Sim.Try.ty_load29 Go.Sim.Try.ty_zero29 Go.Sim.Try.ty_el29 Go.Sim.Try.ty_zeroE29 Go.Sim.Try.ty_load34 Go.Sim.Try.ty_zero34 Go.Sim.Try.ty_und34 Go.Sim.Try.ty_load41 Go.Sim.Try.ty_zero41 Go.Sim.Try.ty_fld41_0 Go.Sim.Try.ty_part41_0 Go.Sim.Try.ty_fld41_1 Go.Sim.Try.ty_part41_1 Go.Sim.Try.ty_fld41_2 Go.Sim.Try.ty_part41_2 Go.Sim.Try.ty_struct41 Go.Sim.Try.ty_load47 Go.Sim.Try.ty_zero47 Go.Sim.Try.ty_el47 Go.Sim.Try.ty_zeroE47 Go.Sim.Try.ty_load55 Go.Sim.Try.ty_zero55 Go.Sim.Try.ty_fld55_0 Go.Sim.Try.ty_part55_0 Go.Sim.Try.ty_fld55_1 Go.Sim.Try.ty_part55_1 Go.Sim.Try.ty_fld55_2 Go.Sim.Try.ty_part55_2 Go.Sim.Try.ty_fld55_3 Go.Sim.Try.ty_part55_3 Go.Sim.Try.ty_struct55 Go.Sim.Try.ty_load56 Go.Sim.Try.ty_zero56 Go.Sim.Try.ty_load58 Go.Sim.Try.ty_zero58 Go.Sim.Try.ty_fld58_0 Go.Sim.Try.ty_part58_0 Go.Sim.Try.ty_fld58_1 Go.Sim.Try.ty_part58_1 Go.Sim.Try.ty_struct58 Go.Sim.Try.ty_load60 Go.Sim.Try.ty_zero60 Go.Sim.Try.ty_load67 Go.Sim.Try.ty_zero67 Go.Sim.Try.ty_el67 Go.Sim.Try.ty_zeroE67 Go.Sim.Try.ty_load68 Go.Sim.Try.ty_zero68 Go.Sim.Try.ty_und68 Go.Sim.Try.ty_vzero58 Go.Sim.Try.ty_load72 Go.Sim.Try.ty_zero72 Go.Sim.Try.ty_el72 Go.Sim.Try.ty_zeroE72 Go.Sim.Try.ty_load79 Go.Sim.Try.ty_zero79 Go.Sim.Try.ty_load80 Go.Sim.Try.ty_zero80 Go.Sim.Try.ty_und80 Go.Sim.Try.ty_vzero4 Go.Sim.Try.ty_load82 Go.Sim.Try.ty_zero82 Go.Sim.Try.ty_fld82_0 Go.Sim.Try.ty_part82_0 Go.Sim.Try.ty_fld82_1 Go.Sim.Try.ty_part82_1 Go.Sim.Try.ty_fld82_2 Go.Sim.Try.ty_part82_2 Go.Sim.Try.ty_struct82 Go.Sim.Try.ty_load86 Go.Sim.Try.ty_zero86 Go.Sim.Try.ty_und86 Go.Sim.Try.ty_vzero3 Go.Sim.Try.ty_load87 Go.Sim.Try.ty_zero87 Go.Sim.Try.ty_arr87 Go.Sim.Try.ty_part87_0 Go.Sim.Try.ty_part87_1 Go.Sim.Try.ty_struct87 Go.Sim.Try.ty_load98 Go.Sim.Try.ty_zero98 Go.Sim.Try.ty_und98 Go.Sim.Try.ty_load100 Go.Sim.Try.ty_zero100 Go.Sim.Try.ty_und100 Go.Sim.Try.ty_el100 Go.Sim.Try.ty_zeroE100 Go.Sim.Try.ty_load104 Go.Sim.Try.ty_zero104 Go.Sim.Try.ty_load109 Go.Sim.Try.ty_zero109 Go.Sim.Try.ty_load112 Go.Sim.Try.ty_zero112 Go.Sim.Try.ty_und112 Go.Sim.Try.ty_load119 Go.Sim.Try.ty_zero119 Go.Sim.Try.ty_und119 Go.Sim.Try.ty_load121 Go.Sim.Try.ty_zero121 Go.Sim.Try.ty_und121 Go.Sim.Try.ty_load129 Go.Sim.Try.ty_zero129 Go.Sim.Try.ty_und129 Go.Sim.Try.ty_load133 Go.Sim.Try.ty_zero133
section
attribute [local push_cast] encIs_pure encNs_pure encT_pure encT_len encT_one encT_take encN_eq encM_eq plus_obj0 plus_set0 piL_is00 piL_is0 piL_isk encIs_one encNs_four hasT_nil hasT_cons
def memoC (m : Mm) : AObj := .cells 3 [[.sl (m.N.map encN), .sl (m.G.map encI), .sl (m.P.map encI)]] 0
theorem memoC_eq (m : Mm) : memoC m = .cells 3 [[.sl (m.N.map encN), .sl (m.G.map encI), .sl (m.P.map encI)]] 0 := rfl
def OutI (m : Mm) (g : Int) (H : AH) (d : Nat) (T : Tm) (D : AH) : Prop := ∃ a ks S, d ≤ 4 ∧ HasT T [(42, .int d), (6, .rsl a 1 0 m.P.length), (5, .sl ((rootsS m.P).map encI)), (2, .ptr (H.nxt + 0) 3 0 0), (1, .int g)] ∧
  SameE [] H D ∧ H.nxt ≤ a ∧ D.obj (H.nxt + 0) = some (memoC m) ∧ H.nxt + 0 < D.nxt ∧ Slots D a m.P.length ks S ∧ ∀ r, r < m.P.length → ∀ t, t ∈ S r ↔ mkT m d r t
def NodI (m : Mm) (g : Int) (H : AH) (d a : Nat) (ks : Nat → Option Nat) (S : Nat → List Tr) (D0 : AH) (e : Nat) (T : Tm) (D : AH) : Prop := ∃ kb SB, e ≤ m.N.length ∧
  HasT T [(51, .int e), (50, .int m.N.length), (49, .sl (m.N.map encN)), (7, .rsl (D0.nxt + 0) 1 0 m.P.length), (42, .int d), (6, .rsl a 1 0 m.P.length), (5, .sl ((rootsS m.P).map encI)), (2, .ptr (H.nxt + 0) 3 0 0), (1, .int g)] ∧
  SameE [] D0 D ∧ D0.nxt < D.nxt ∧ Slots D (D0.nxt + 0) m.P.length kb SB ∧ (∀ r k, r < m.P.length → kb r = some k → D0.nxt ≤ k) ∧ ∀ r, r < m.P.length → ∀ t, t ∈ SB r ↔ mkU m d e r t
def NodF (m : Mm) (g : Int) (H : AH) (d a : Nat) (S : Nat → List Tr) (D0 : AH) (e at0 : Nat) (SB : Nat → List Tr) (T : Tm) (D : AH) : Prop := ∃ kb kB q,
  HasT T [(51, .int e), (50, .int m.N.length), (49, .sl (m.N.map encN)), (7, .rsl (D0.nxt + 0) 1 0 m.P.length), (42, .int d), (6, .rsl a 1 0 m.P.length), (5, .sl ((rootsS m.P).map encI)), (2, .ptr (H.nxt + 0) 3 0 0), (1, .int g), (10, .int at0), (9, .ptr q 4 0 0)] ∧
  SameE [] D0 D ∧ D0.nxt < D.nxt ∧ Slots D (D0.nxt + 0) m.P.length kb SB ∧ (∀ r k, r < m.P.length → kb r = some k → D0.nxt ≤ k) ∧ kb at0 = some kB ∧ D.obj q = some (.cells 4 [encN (m.N.getD e nd0)] 0) ∧ D0.nxt ≤ q
theorem node_next {m : Mm} {g : Int} {H : AH} {d a : Nat} {ks : Nat → Option Nat} {S : Nat → List Tr} {D0 D2 D3 : AH} {e at0 kB : Nat} {SB : Nat → List Tr} {kb : Nat → Option Nat} {T3 : Tm} {L : List Tr} (hel : e < m.N.length) (hat : rgM m e = at0) (hrl : at0 < m.P.length)
    (hDD : SameE [] D0 D2) (hDn : D0.nxt < D2.nxt) (hSl : Slots D2 (D0.nxt + 0) m.P.length kb SB) (hkb : ∀ r k, r < m.P.length → kb r = some k → D0.nxt ≤ k) (hkB : kb at0 = some kB) (hSB : ∀ r, r < m.P.length → ∀ t, t ∈ SB r ↔ mkU m d e r t)
    {ex : List Nat} (hs : SameE ex D2 D3) (hx1 : ∀ k ∈ ex, D0.nxt ≤ k) (hx2 : D0.nxt + 0 ∉ ex) (hx3 : ∀ g k, g < m.P.length → kb g = some k → k ∈ ex → k = kB) (hL : D3.obj kB = some (.amap (L.map kvM))) (hg : GoodL L) (hmem : ∀ t, t ∈ L ↔ t ∈ SB at0 ∨ stepM m (mkT m d) e t)
    (hT : HasT T3 [(51, .int (e + 1 : Nat)), (50, .int m.N.length), (49, .sl (m.N.map encN)), (7, .rsl (D0.nxt + 0) 1 0 m.P.length), (42, .int d), (6, .rsl a 1 0 m.P.length), (5, .sl ((rootsS m.P).map encI)), (2, .ptr (H.nxt + 0) 3 0 0), (1, .int g)]) : NodI m g H d a ks S D0 (e + 1) T3 D3 := by
  have hkn := hkb at0 kB hrl hkB
  refine ⟨kb, fun r => if r = at0 then L else SB r, hel, hT, hDD.trans hs (fun k hk _ => ⟨by simp, fun h => by have := hx1 k h; omega⟩), Nat.lt_of_lt_of_le hDn hs.2.1, ?_, hkb, fun r hr t => ?_⟩
  · refine hSl.more hDD.1 hs hrl hkB hx2 (fun g k hg hk hx => ?_) hL hg
    have := hx3 g k hg hk hx
    subst this
    exact hSl.inj g at0 k hg hrl hk hkB
  · rw [mkU_succ]
    show t ∈ (if r = at0 then L else SB r) ↔ _
    by_cases hr0 : r = at0
    · subst hr0
      rw [if_pos rfl, hmem, hSB r hr]
      constructor
      · rintro (h | h)
        · exact .inl h
        · exact .inr ⟨hat, h⟩
      · rintro (h | ⟨_, h⟩)
        · exact .inl h
        · exact .inr h
    · rw [if_neg hr0, hSB r hr]
      constructor
      · exact .inl
      · rintro (h | ⟨h, _⟩)
        · exact h
        · exact absurd (h.symm.trans hat) hr0
theorem join_at {G : Prop} {C F : Tm → AH → Prop} (use : (∀ T D, F T D → C T D) → G) (rest : ∀ T D, F T D → C T D) : G := use rest
def ItF (D : AH) (it : Nat) (L : List Tr) (seen : List Nat) : Option Nat → Prop
  | none => D.obj it = some .anit
  | some k => D.obj it = some (.amit k L.length seen) ∧ D.obj k = some (.amap (L.map kvM))
def NodJ (m : Mm) (g : Int) (H : AH) (d a : Nat) (ks : Nat → Option Nat) (S : Nat → List Tr) (D0 : AH) (e at0 : Nat) (SB : Nat → List Tr) (T : Tm) (D : AH) : Prop := ∃ kb kB q it,
  HasT T [(51, .int e), (50, .int m.N.length), (49, .sl (m.N.map encN)), (7, .rsl (D0.nxt + 0) 1 0 m.P.length), (42, .int d), (6, .rsl a 1 0 m.P.length), (5, .sl ((rootsS m.P).map encI)), (2, .ptr (H.nxt + 0) 3 0 0), (1, .int g), (10, .int at0), (9, .ptr q 4 0 0), (95, .ptr it 1 0 0)] ∧
  SameE [] D0 D ∧ D0.nxt < D.nxt ∧ Slots D (D0.nxt + 0) m.P.length kb SB ∧ (∀ r k, r < m.P.length → kb r = some k → D0.nxt ≤ k) ∧ kb at0 = some kB ∧ D.obj q = some (.cells 4 [encN (m.N.getD e nd0)] 0) ∧ D0.nxt ≤ q ∧
  ItF D it (S (raM m e)) [] (ks (raM m e)) ∧ D0.nxt ≤ it ∧ it ≠ kB
theorem mem_unseen {n j : Nat} {seen : List Nat} (h : j ∈ unseen n seen) : j < n ∧ j ∉ seen := by
  unfold unseen at h
  rw [List.mem_filter, List.mem_range] at h
  exact ⟨h.1, by simpa using h.2⟩
theorem unseen_none {n j : Nat} {seen : List Nat} (h : unseen n seen = []) (hj : j < n) : j ∈ seen := by
  cases hc : seen.contains j with
  | true => simpa using hc
  | false =>
    have : j ∈ unseen n seen := by
      unfold unseen
      rw [List.mem_filter, List.mem_range]
      exact ⟨hj, by rw [hc]; rfl⟩
    rw [h] at this
    cases this
theorem seen_len {n : Nat} {seen : List Nat} (h1 : seen.Nodup) (h2 : ∀ j ∈ seen, j < n) : seen.length ≤ n := nodup_lt n seen h1 h2
theorem seen_add {n j : Nat} {seen : List Nat} (h1 : seen.Nodup) (h2 : ∀ j ∈ seen, j < n) (hj : j < n) (hn : j ∉ seen) : (seen ++ [j]).Nodup ∧ (∀ k ∈ seen ++ [j], k < n) ∧ seen.length < n := by
  have h3 : (seen ++ [j]).Nodup := by
    rw [List.nodup_append]
    exact ⟨h1, by simp, fun x hx y hy => by obtain rfl := List.mem_singleton.1 hy; exact fun e => hn (e ▸ hx)⟩
  have h4 : ∀ k ∈ seen ++ [j], k < n := fun k hk => by
    rcases List.mem_append.1 hk with h | h
    · exact h2 k h
    · obtain rfl := List.mem_singleton.1 h; exact hj
  have := seen_len h3 h4
  rw [List.length_append, List.length_cons, List.length_nil] at this
  exact ⟨h3, h4, by omega⟩
def topT (m : Mm) (g : Int) (H : AH) (d a : Nat) (D0 : AH) (e at0 q it : Nat) : List (Nat × AV) :=
  [(51, .int e), (50, .int m.N.length), (49, .sl (m.N.map encN)), (7, .rsl (D0.nxt + 0) 1 0 m.P.length), (42, .int d), (6, .rsl a 1 0 m.P.length), (5, .sl ((rootsS m.P).map encI)), (2, .ptr (H.nxt + 0) 3 0 0), (1, .int g), (10, .int at0), (9, .ptr q 4 0 0), (95, .ptr it 1 0 0)]
theorem topT_eq (m : Mm) (g : Int) (H : AH) (d a : Nat) (D0 : AH) (e at0 q it : Nat) : topT m g H d a D0 e at0 q it =
  [(51, .int e), (50, .int m.N.length), (49, .sl (m.N.map encN)), (7, .rsl (D0.nxt + 0) 1 0 m.P.length), (42, .int d), (6, .rsl a 1 0 m.P.length), (5, .sl ((rootsS m.P).map encI)), (2, .ptr (H.nxt + 0) 3 0 0), (1, .int g), (10, .int at0), (9, .ptr q 4 0 0), (95, .ptr it 1 0 0)] := rfl
def LoopX (TT : List (Nat × AV)) (LX LY L0 : List Tr) (kB it : Nat) (ko : Option Nat) (D2 : AH) (n : Nat) (T : Tm) (D : AH) : Prop := ∃ seen L, HasT T TT ∧ SameE [kB, it] D2 D ∧ D.obj kB = some (.amap (L.map kvM)) ∧ GoodL L ∧ ItF D it LX seen ko ∧
  seen.Nodup ∧ (∀ j ∈ seen, j < LX.length) ∧ (∀ t, t ∈ L ↔ t ∈ L0 ∨ ∃ j ∈ seen, ∃ x, LX[j]? = some x ∧ ∃ y ∈ LY, t = .join x y ∧ t.may = true) ∧ n = LX.length - seen.length
def LoopY (TT : List (Nat × AV)) (x : Tr) (LY L0 : List Tr) (kB it q12 : Nat) (ko : Option Nat) (D2 : AH) (n : Nat) (T : Tm) (D : AH) : Prop := ∃ seen L, (HasT T TT ∧ tget T 12 = .ptr q12 2 0 0 ∧ tget T 108 = .ptr it 1 0 0) ∧ SameE [kB, it] D2 D ∧ D.obj kB = some (.amap (L.map kvM)) ∧ GoodL L ∧ ItF D it LY seen ko ∧
  seen.Nodup ∧ (∀ j ∈ seen, j < LY.length) ∧ (∀ t, t ∈ L ↔ t ∈ L0 ∨ ∃ j ∈ seen, ∃ y, LY[j]? = some y ∧ t = .join x y ∧ t.may = true) ∧ n = LY.length - seen.length
def NodY (TT : List (Nat × AV)) (x : Tr) (LY : List Tr) (ko : Option Nat) (D4 : AH) (T : Tm) (D : AH) : Prop := ∃ q12 it2, HasT T TT ∧ tget T 12 = .ptr q12 2 0 0 ∧ tget T 108 = .ptr it2 1 0 0 ∧ SameE [] D4 D ∧ D.obj q12 = some (.cells 2 [encT x] 0) ∧ ItF D it2 LY [] ko ∧ D4.nxt ≤ q12 ∧ D4.nxt ≤ it2
theorem slots_none {D : AH} {r n : Nat} (h : D.obj r = some (.cells 1 (List.replicate n [.lit (.map none)]) 0)) : Slots D r n (fun _ => none) (fun _ => []) where
  row := by
    rw [h]
    congr 2
    rw [List.map_const', List.length_range]; rfl
  map := fun g k _ h => by cases h
  nil := fun _ _ _ => rfl
  inj := fun g g' k _ _ h => by cases h
  good := fun _ _ => GoodL.nil
theorem sortS_ok {i : Nat} {ss : List (List UInt8)} {H : AH} (hz : ss.length < 4611686018427387904) (ho : H.obj i = some (.cells 1 (rowStr ss) 0)) :
    ACalls Go.Proofs.Try.prog 46 [.rsl i 1 0 ss.length] H fun r H' => r = .tup [] ∧ H' = H.set i (.cells 1 (rowStr (ss.mergeSort fun x y => decide (x ≤ y))) 0) :=
  sortS_row Go.Proofs.Try.laysSortS (by kernel_rfl) hz ho
theorem sortSN_ok {H : AH} : ACalls Go.Proofs.Try.prog 46 [.nilS] H fun r H' => r = .tup [] ∧ H' = H := sortS_nil Go.Proofs.Try.laysSortS (by kernel_rfl)
theorem same_grow {ex : List Nat} {D D4 : AH} (h : SameE ex D D4) {x : Option AObj} {o : AObj} {q : Nat} (hq : D.nxt ≤ q) (hq4 : q < D4.nxt) : SameE ex D (((D4.plus [x]).del q).add o) ∧ (((D4.plus [x]).del q).add o).obj (D4.nxt + 1) = some o ∧ ∀ k, k < D4.nxt → k ≠ q → (((D4.plus [x]).del q).add o).obj k = D4.obj k := by
  have h1 : (((D4.plus [x]).del q).add o).obj (D4.nxt + 1) = some o := by
    show (if D4.nxt + 1 = (D4.plus [x]).nxt then some o else _) = _
    rw [plus_nxt]; exact if_pos rfl
  have h2 : ∀ k, k < D4.nxt → k ≠ q → (((D4.plus [x]).del q).add o).obj k = D4.obj k := fun k hk hkq => by
    show (if k = (D4.plus [x]).nxt then some o else if k = q then none else (D4.plus [x]).obj k) = _
    rw [plus_nxt, if_neg (by rw [List.length_singleton]; omega), if_neg hkq, plus_low D4 _ hk]
  refine ⟨⟨fun j y hy => ?_, by show _ ≤ (D4.plus [x]).nxt + 1; rw [plus_nxt]; have := h.2.1; omega, fun k hk he => ?_⟩, h1, h2⟩
  · have hy' : (if j = (D4.plus [x]).nxt then some o else if j = q then none else (D4.plus [x]).obj j) = some y := hy
    show j < (D4.plus [x]).nxt + 1
    split at hy'
    · omega
    · split at hy'
      · cases hy'
      · have := lw_plus D4 [x] j y hy'; omega
  · rw [h2 k (by have := h.2.1; omega) (by omega)]
    exact h.2.2 k hk he
def RowT (n0 t : Nat) (T : Tm) (D : AH) (z : Nat) (rows : List (List AV)) : Prop := (rows = [] ∧ tget T t = .nilS) ∨ (rows ≠ [] ∧ ∃ q, tget T t = .rsl q z 0 rows.length ∧ D.obj q = some (.cells z rows 0) ∧ n0 ≤ q)
def LoopK (TT : List (Nat × AV)) (L : List Tr) (it : Nat) (ko : Option Nat) (D2 : AH) (n : Nat) (T : Tm) (D : AH) : Prop := ∃ seen, HasT T TT ∧ SameE [it] D2 D ∧ ItF D it L seen ko ∧
  seen.Nodup ∧ (∀ j ∈ seen, j < L.length) ∧ RowT D2.nxt 16 T D 1 (rowStr (seen.map fun j => tb (L.getD j (.leaf 0)))) ∧ n = L.length - seen.length
def EndK (TT : List (Nat × AV)) (L : List Tr) (it : Nat) (D2 : AH) (T : Tm) (D : AH) : Prop := ∃ ss, HasT T TT ∧ SameE [it] D2 D ∧ RowT D2.nxt 16 T D 1 (rowStr ss) ∧ ss.length = L.length ∧ (ss.mergeSort fun x y => decide (x ≤ y)) = (sortM L).map tb
def LoopO (TT : List (Nat × AV)) (M : List Tr) (D3 : AH) (n : Nat) (T : Tm) (D : AH) : Prop := HasT T ((148, .int (M.length - n : Nat)) :: TT) ∧ n ≤ M.length ∧ SameE [] D3 D ∧ RowT D3.nxt 18 T D 2 ((M.take (M.length - n)).map encT)
def KeysI (m : Mm) (g : Nat) (a : Nat) (L : List Tr) (ko : Option Nat) (D : AH) (T2 : Tm) (D2 : AH) : Prop := ∃ it, HasT T2 [(135, .ptr it 1 0 0), (6, .rsl a 1 0 m.P.length), (5, .sl ((rootsS m.P).map encI)), (1, .int g), (16, .nilS)] ∧
  SameE [] D D2 ∧ D.nxt ≤ it ∧ ItF D2 it L [] ko
set_option maxHeartbeats 8000000 in
theorem Trees_ok (m : Mm) (hm : m.Small) (g : Int) : Quiet Go.Proofs.Try.prog 15 [encM m, .int g] (.sl ((treesM m g).map encT)) := by
  refine quiet_of (rs := #[.tmp 4]) Go.Proofs.Try.func15 rfl rfl rfl mixed rfl rfl fun H hs => ?_
  push_cast -implicitDefEqProofs [eq_self, iff_self]
  refine callq (MayM_ok m hm) ?_
  by_cases hc : m.may = true ∧ 0 ≤ g ∧ g < m.P.length
  case neg =>
    rw [treesM_out hc]
    cases hmay : m.may with
    | false =>
      push_cast -implicitDefEqProofs [eq_self, iff_self]
      repeat (refine gskip ?_; push_cast -implicitDefEqProofs [eq_self, iff_self])
    | true =>
      by_cases hg0 : g < 0
      · have hg0' : decide (g < 0) = true := decide_eq_true hg0
        push_cast -implicitDefEqProofs [eq_self, iff_self, hg0']
        repeat (refine gskip ?_; push_cast -implicitDefEqProofs [eq_self, iff_self, hg0'])
      · have hg0' : decide (g < 0) = false := decide_eq_false hg0
        have hg1 : decide ((m.P.length : Int) ≤ g) = true := decide_eq_true (by
          by_cases h : g < m.P.length
          · exact absurd ⟨hmay, by omega, h⟩ hc
          · omega)
        push_cast -implicitDefEqProofs [eq_self, iff_self, hg0', hg1]
  obtain ⟨hmay, hg0, hg1⟩ := hc
  have hf := may_form hmay
  have hP := form_P hf
  have hRl := rootsS_len hP
  have hGl := ((form_iff m).1 hf).2.1
  have hNl := ((form_iff m).1 hf).2.2.1
  have hPl := (mayS_iff.1 hP).2
  have hd1 : decide (g < 0) = false := decide_eq_false (by omega)
  have hd2 : decide ((m.P.length : Int) ≤ g) = false := decide_eq_false (by omega)
  rw [hmay]
  push_cast -implicitDefEqProofs [eq_self, iff_self, hd1, hd2]
  refine callq (RootsS_q m.P hm.2.2) ?_
  push_cast -implicitDefEqProofs [eq_self, iff_self]
  refine ⟨by omega, ?_⟩
  refine loop_raw (fun n T D => OutI m g H (4 - n) T D ∧ n ≤ 4) 4 ?_ ?_
  · refine ⟨⟨H.nxt + 1, fun _ => none, fun _ => [], by omega, ?_, ?_, by omega, by rw [plus_obj]; rfl, by rw [plus_nxt]; simp, slots_none (by rw [plus_obj]; rfl), fun r hr t => ⟨(fun h => by cases h), fun h => h.elim⟩⟩, Nat.le_refl _⟩
    · push_cast -implicitDefEqProofs [eq_self, iff_self]
    · exact (SameE.refl (lw_hsc hs)).plus _
  rintro n T D ⟨⟨a, ks, S, hd4, hT, hHD, ha, hbox, hbx, hSl, hS⟩, hn4⟩
  generalize hd : 4 - n = d at hd4 hT hS
  simp only [hasT_cons, hasT_nil, and_true] at hT
  obtain ⟨t42, t6, t5, t2, t1⟩ := hT
  have hlw := hHD.1
  rw [← plus_none hlw]
  by_cases hdd : d < 4
  case neg =>
    obtain rfl : d = 4 := by omega
    have hd' : ((4 : Nat) : Int) = 4 := rfl
    push_cast -implicitDefEqProofs [eq_self, iff_self, t42, hd']
    obtain ⟨g, rfl⟩ : ∃ g0 : Nat, g = g0 := ⟨g.toNat, by omega⟩
    have hgR := int_at (p := rootsS m.P) (i := g) (by omega)
    have hR : (rootsS m.P).getD g 0 = (rootN m.P g : Int) := rootsS_at hP (by omega)
    rw [hR] at hgR
    have hrl : rootN m.P g < m.P.length := Nat.lt_of_le_of_lt (rootN_le hP (by omega)) (by omega)
    have hS' := hS _ hrl
    have hTM := treesM_eq ⟨hmay, by omega⟩ (hSl.good _ hrl) hS'
    generalize hr : rootN m.P g = r at hgR hR hrl hS' hTM
    have hrow := fun l => (plus_low D l (hSl.lt hlw).1).trans hSl.row
    have hrg := range_get hrl (fun g => [slotV (ks g)])
    have hr0 : (0 ≤ (r : Int)) = True := by simp
    have hr1 := inb_true hrl
    have hg0' := inb_true (n := g) (k := (rootsS m.P).length) (by omega)
    have hg0'' : (0 ≤ (g : Int)) = True := by simp
    apply join_at (F := KeysI m g a (S r) (ks r) D)
    case use =>
      intro key
      cases hk : ks r with
      | none =>
        rw [hk] at hrg key
        have hrg' := hrg.trans (show [slotV none] = [AV.lit (.map none)] from rfl)
        push_cast -implicitDefEqProofs [eq_self, iff_self, t42, t6, t5, t1, hd', hgR, hg0', hg0'', hrow, hr0, hr1, hrg', List.length_range]
        refine ⟨hrl, ⟨_, _, rfl⟩, key _ _ ⟨D.nxt + 0, ?_, (SameE.refl hlw).plus _, by omega, plus_obj D _ 0⟩⟩
        · push_cast -implicitDefEqProofs [eq_self, iff_self, t6, t5, t1]
      | some k =>
        rw [hk] at hrg key
        have hrg' := hrg.trans (show [slotV (some k)] = [AV.mp k] from rfl)
        have hm0 := hSl.map _ _ hrl hk
        have hm0' := fun l => (plus_low D l (hlw _ _ hm0)).trans hm0
        push_cast -implicitDefEqProofs [eq_self, iff_self, t42, t6, t5, t1, hd', hgR, hg0', hg0'', hrow, hr0, hr1, hrg', List.length_range, hm0']
        refine ⟨hrl, ⟨_, _, rfl⟩, key _ _ ⟨D.nxt + 0, ?_, (SameE.refl hlw).plus _, by omega, (plus_obj D _ 0).trans (by simp), hm0' _⟩⟩
        · push_cast -implicitDefEqProofs [eq_self, iff_self, t6, t5, t1]
    case rest =>
      rintro T2 D2 ⟨it, hT2, hDD2, hitn, hit⟩
      have hlw2 := hDD2.1
      have hgL := hSl.good r hrl
      generalize hL : S r = L at hTM hit hgL
      simp only [hasT_cons, hasT_nil, and_true] at hT2
      obtain ⟨v135, v6, v5, v1, v16⟩ := hT2
      have hitD2 : it < D2.nxt := by
        cases hko : ks r with
        | none => rw [hko] at hit; exact hlw2 _ _ hit
        | some k => rw [hko] at hit; exact hlw2 _ _ hit.1
      apply join_at (F := EndK [(6, .rsl a 1 0 m.P.length), (5, .sl ((rootsS m.P).map encI)), (1, .int g)] L it D2)
      case use =>
        intro key
        refine loop_raw (LoopK [(135, .ptr it 1 0 0), (6, .rsl a 1 0 m.P.length), (5, .sl ((rootsS m.P).map encI)), (1, .int g)] L it (ks r) D2) L.length ⟨[], ?_, SameE.refl hlw2, hit, List.nodup_nil, (fun j h => by cases h), .inl ⟨rfl, v16⟩, by simp⟩ ?_
        · push_cast -implicitDefEqProofs [eq_self, iff_self, v135, v6, v5, v1]
        rintro n2 T3 D3 ⟨seen, hT3, hs3, hit3, hnd, hsn, hrw, hn2⟩
        simp only [hasT_cons, hasT_nil, and_true] at hT3
        obtain ⟨w135, w6, w5, w1⟩ := hT3
        have hlw3 := hs3.1
        have hend : (∀ j, j < L.length → j ∈ seen) → ∀ T, HasT T [(6, .rsl a 1 0 m.P.length), (5, .sl ((rootsS m.P).map encI)), (1, .int g)] → RowT D2.nxt 16 T D3 1 (rowStr (seen.map fun j => tb (L.getD j (.leaf 0)))) → EndK [(6, .rsl a 1 0 m.P.length), (5, .sl ((rootsS m.P).map encI)), (1, .int g)] L it D2 T D3 := fun hall T h1 h2 =>
          ⟨_, h1, hs3, h2, by rw [List.length_map]; exact (Nat.le_antisymm (seen_len hnd hsn) (by rw [← List.length_range (n := L.length)]; exact nodup_sub List.nodup_range fun j hj => hall j (List.mem_range.1 hj))), sort_seen hnd (fun j => ⟨hsn j, hall j⟩) hgL.2⟩
        have hitD3 : it < D3.nxt := Nat.lt_of_lt_of_le hitD2 hs3.2.1
        rw [← plus_none hlw3]
        cases hko : ks r with
        | none =>
          rw [hko] at hit3
          have hit3' : ∀ l, (D3.plus l).obj it = some .anit := fun l => (plus_low D3 l hitD3).trans hit3
          push_cast -implicitDefEqProofs [eq_self, iff_self, w135, hit3', List.mem_singleton]
          rw [plus_none hlw3]
          have hLX : L = [] := by rw [← hL]; exact hSl.nil _ hrl hko
          refine key T3 D3 (hend (fun j hj => by rw [hLX] at hj; exact absurd hj (by simp)) _ ?_ ?_)
          · exact .cons w6 (.cons w5 (.cons w1 (.nil _)))
          · exact hrw
        | some kA =>
          rw [hko] at hit3
          have hkA3 : kA < D3.nxt := hlw3 _ _ hit3.2
          have hit3' := fun l => (plus_low D3 l hitD3).trans hit3.1
          have hmA3 := fun l => (plus_low D3 l hkA3).trans hit3.2
          have hlenX : (L.map kvM).length = L.length := List.length_map _
          push_cast -implicitDefEqProofs [eq_self, iff_self, w135, hit3', hmA3]
          refine fun y hy => ?_
          rw [anexts] at hy
          by_cases hu : unseen L.length seen = []
          · rw [if_pos hu] at hy
            obtain rfl := List.mem_singleton.1 hy
            push_cast -implicitDefEqProofs [eq_self, iff_self]
            rw [plus_none hlw3]
            refine key T3 D3 (hend (fun j hj => unseen_none hu hj) _ ?_ ?_)
            · exact .cons w6 (.cons w5 (.cons w1 (.nil _)))
            · exact hrw
          rw [if_neg hu] at hy
          obtain ⟨j, hju, rfl⟩ := List.mem_map.1 hy
          obtain ⟨hjl, hjs⟩ := mem_unseen hju
          obtain ⟨hnd', hsn', hlt'⟩ := seen_add hnd hsn hjl hjs
          have hxj : L[j]? = some L[j] := List.getElem?_eq_getElem hjl
          have hxm : L[j].may = true := hgL.2 _ (List.getElem_mem hjl)
          have hxd : L.getD j (.leaf 0) = L[j] := by simp [hjl]
          generalize L[j] = x at hxj hxm hxd
          have hkx : (L.map kvM)[j]? = some (.string (txt 4 x), .agg (encT x)) := by rw [List.getElem?_map, hxj]; rfl
          have hsk := plus_setlow D3 [] hitD3 (.amit kA L.length (seen ++ [j]))
          obtain ⟨D4, hD4⟩ : ∃ D4, D4 = D3.set it (.amit kA L.length (seen ++ [j])) := ⟨_, rfl⟩
          rw [← hD4] at hsk
          have hs4 : SameE [it] D2 D4 := by rw [hD4]; exact hs3.set hitD3 (.inl (by simp))
          have hlw4 := hs4.1
          have hit4 : D4.obj it = some (.amit kA L.length (seen ++ [j])) := by rw [hD4, set_at]
          have hkAit : kA ≠ it := fun e0 => by have h1 := hit3.2; rw [e0, hit3.1] at h1; cases h1
          have hmA4 : D4.obj kA = some (.amap (L.map kvM)) := by rw [hD4, set_off _ _ hkAit]; exact hit3.2
          have hit4' := fun l => (plus_low D4 l (hlw4 _ _ hit4)).trans hit4
          have hmA4' := fun l => (plus_low D4 l (hlw4 _ _ hmA4)).trans hmA4
          rw [hsk]
          have hnx : ∀ (T : Tm) (D5 : AH), SameE [it] D2 D5 → D5.obj it = D4.obj it → D5.obj kA = D4.obj kA → HasT T [(135, .ptr it 1 0 0), (6, .rsl a 1 0 m.P.length), (5, .sl ((rootsS m.P).map encI)), (1, .int g)] → RowT D2.nxt 16 T D5 1 (rowStr ((seen ++ [j]).map fun j => tb (L.getD j (.leaf 0)))) → NextR (LoopK [(135, .ptr it 1 0 0), (6, .rsl a 1 0 m.P.length), (5, .sl ((rootsS m.P).map encI)), (1, .int g)] L it (some kA) D2) n2 T D5 := fun T D5 k1 k2 k3 h1 h2 =>
            ⟨_, by rw [List.length_append, List.length_cons, List.length_nil]; omega, seen ++ [j], h1, k1, ⟨k2.trans hit4, k3.trans hmA4⟩, hnd', hsn', h2, rfl⟩
          have hrows : rowStr ((seen ++ [j]).map fun j => tb (L.getD j (.leaf 0))) = rowStr (seen.map fun j => tb (L.getD j (.leaf 0))) ++ [[.lit (.string (txt 4 x))]] := by
            rw [List.map_append, rowStr, List.map_append, ← rowStr, List.map_cons, List.map_nil, List.map_cons, List.map_nil, hxd, tb_enc]
          have hln : (rowStr (seen.map fun j => tb (L.getD j (.leaf 0)))).length = seen.length := by rw [rowStr, List.length_map, List.length_map]
          have hLl := hgL.len
          rw [hrows] at hnx
          generalize rowStr (seen.map fun j => tb (L.getD j (.leaf 0))) = rows at hrw hnx hln
          rcases hrw with ⟨rfl, w16⟩ | ⟨hne, q, w16, hq, hqn⟩
          · push_cast -implicitDefEqProofs [eq_self, iff_self, w135, hit4', hmA4', List.getLast?_concat, hkx, w16]
            refine hnx _ _ (hs4.plus _) (plus_low D4 _ (hlw4 _ _ hit4)) (plus_low D4 _ (hlw4 _ _ hmA4)) ?_ (.inr ⟨by simp, D4.nxt + 1, rfl, plus_obj D4 _ 1, by have := hs4.2.1; omega⟩)
            push_cast -implicitDefEqProofs [eq_self, iff_self, w135, w6, w5, w1]
          · have hq4 : D4.obj q = some (.cells 1 rows 0) := by
              rw [hD4, set_off _ _ (fun e0 => by rw [e0, hit3.1] at hq; cases hq)]; exact hq
            have hq4' := fun l => (plus_low D4 l (hlw4 _ _ hq4)).trans hq4
            push_cast -implicitDefEqProofs [eq_self, iff_self, w135, hit4', hmA4', List.getLast?_concat, hkx, w16, hq4']
            obtain ⟨k1, k2, k3⟩ := same_grow (x := some (.cells 1 [[.lit (.string (txt 4 x))]] 0)) (o := .cells 1 (List.take rows.length rows ++ [[.lit (.string (txt 4 x))]]) 0) hs4 hqn (hlw4 _ _ hq4)
            refine ⟨by omega, hnx _ _ k1 (k3 _ (hlw4 _ _ hit4) (fun e0 => by rw [e0, hq4] at hit4; cases hit4)) (k3 _ (hlw4 _ _ hmA4) (fun e0 => by rw [e0, hq4] at hmA4; cases hmA4)) ?_ (.inr ⟨by simp, D4.nxt + 1, ?_, ?_, by have := hs4.2.1; omega⟩)⟩
            · push_cast -implicitDefEqProofs [eq_self, iff_self, w135, w6, w5, w1]
            · rw [List.length_append, List.length_cons, List.length_nil]; rfl
            · rw [k2, List.take_length]
      case rest =>
        rintro T4 D4 ⟨ss, hT4, hs4, hrw, hsl, hss⟩
        simp only [hasT_cons, hasT_nil, and_true] at hT4
        obtain ⟨w6, w5, w1⟩ := hT4
        have hlw4 := hs4.1
        have hLl := hgL.len
        rcases hrw with ⟨h0, w16⟩ | ⟨hne, q, w16, hq, hqn⟩
        · obtain rfl : ss = [] := List.map_eq_nil_iff.1 h0
          obtain rfl : L = [] := List.eq_nil_of_length_eq_zero hsl.symm
          rw [← plus_none hlw4]
          push_cast -implicitDefEqProofs [eq_self, iff_self, w16]
          refine sortSN_ok.mono ?_
          rintro r H' ⟨rfl, rfl⟩
          push_cast -implicitDefEqProofs [eq_self, iff_self, w16]
          refine loop_raw (fun _ T D => HasT T [(148, .int (0 : Nat)), (147, .int (0 : Nat)), (18, .nilS)] ∧ SameE [it] D2 D) 0 ⟨?_, hs4.plus _⟩ ?_
          · push_cast -implicitDefEqProofs [eq_self, iff_self, w16]
          rintro n5 T5 D5 ⟨hT5, hs5⟩
          simp only [hasT_cons, hasT_nil, and_true] at hT5
          obtain ⟨x148, x147, x18⟩ := hT5
          have hD5 : SameE [] D D5 := hDD2.trans hs5 (fun k hk _ => ⟨by simp, by rw [List.mem_singleton]; omega⟩)
          obtain ⟨l5, rfl⟩ := same_plus (lw_hsc hs) (hHD.trans (e3 := []) hD5 (fun k hk _ => ⟨by simp, by simp⟩))
          rw [hTM, show sortM [] = [] from List.mergeSort_nil]
          push_cast -implicitDefEqProofs [eq_self, iff_self, x148, x147, x18]
        · have hrl2 : (rowStr ss).length = ss.length := List.length_map _
          rw [hrl2] at w16
          rw [← plus_none hlw4]
          push_cast -implicitDefEqProofs [eq_self, iff_self, w16]
          refine (sortS_ok (by omega) ((plus_low D4 [] (hlw4 _ _ hq)).trans hq)).mono ?_
          rintro r0 H' ⟨rfl, rfl⟩
          rw [hss, plus_setlow D4 [] (hlw4 _ _ hq)]
          have hq4 := hlw4 _ _ hq
          have hMl : (sortM L).length = ss.length := by rw [hsl]; exact List.length_mergeSort _
          have hMm : ∀ t ∈ sortM L, t ∈ L := fun t ht => sortM_mem.1 ht
          rw [hTM]
          generalize sortM L = M at hMl hMm
          rw [← hMl] at w16
          obtain ⟨D5, hD5⟩ : ∃ D5, D5 = D4.set q (.cells 1 (rowStr (M.map tb)) 0) := ⟨_, rfl⟩
          rw [← hD5]
          have hq5 : D5.obj q = some (.cells 1 (rowStr (M.map tb)) 0) := by rw [hD5, set_at]
          have hs5 : SameE [it] D2 D5 := by rw [hD5]; exact hs4.set hq4 (.inr hqn)
          have hlw5 := hs5.1
          have hkk : ∃ k, ks r = some k := by
            cases hko : ks r with
            | some k => exact ⟨k, rfl⟩
            | none =>
              have := hSl.nil _ hrl hko
              rw [hL] at this
              rw [this] at hsl
              exact absurd (by rw [List.eq_nil_of_length_eq_zero hsl]; rfl) hne
          obtain ⟨k, hk⟩ := hkk
          have hq5' := fun l => (plus_low D5 l (hlw5 _ _ hq5)).trans hq5
          push_cast -implicitDefEqProofs [eq_self, iff_self, w16, hMl, hq5']
          rw [← hMl]
          refine loop_raw (LoopO [(147, .int M.length), (146, .rsl q 1 0 M.length), (6, .rsl a 1 0 m.P.length), (5, .sl ((rootsS m.P).map encI)), (1, .int g)] M D5) M.length ⟨?_, Nat.le_refl _, (SameE.refl hlw5).plus _, .inl ⟨by rw [Nat.sub_self]; rfl, rfl⟩⟩ ?_
          · rw [Nat.sub_self]
            push_cast -implicitDefEqProofs [eq_self, iff_self, w16, w6, w5, w1, hMl]
          rintro n6 T6 D6 ⟨hT6, hn6, hs6, hrow6⟩
          generalize hi : M.length - n6 = i at hT6 hrow6
          simp only [hasT_cons, hasT_nil, and_true] at hT6
          obtain ⟨y148, y147, y146, y6, y5, y1⟩ := hT6
          have hlw6 := hs6.1
          by_cases hil : i < M.length
          case neg =>
            obtain rfl : i = M.length := by omega
            have hil' : ((M.length : Int) < (M.length : Int)) = False := eq_false (by omega)
            have hD6 : SameE [] D D6 := (hDD2.trans (hs5.trans (e3 := [it]) hs6 (fun k hk h => ⟨h, by simp⟩)) (fun k hk _ => ⟨by simp, by rw [List.mem_singleton]; omega⟩))
            obtain ⟨l6, rfl⟩ := same_plus (lw_hsc hs) (hHD.trans (e3 := []) hD6 (fun k hk _ => ⟨by simp, by simp⟩))
            rw [List.take_length] at hrow6
            rcases hrow6 with ⟨h0, x18⟩ | ⟨h0, q6, x18, hq6, hqn6⟩
            · rw [h0]
              push_cast -implicitDefEqProofs [eq_self, iff_self, y148, y147, x18, hil']
            · obtain ⟨j6, rfl⟩ : ∃ j6, q6 = H.nxt + j6 := ⟨q6 - H.nxt, by have := hHD.2.1; have := hDD2.2.1; have := hs5.2.1; omega⟩
              rw [List.length_map] at x18
              rw [plus_obj] at hq6
              push_cast -implicitDefEqProofs [eq_self, iff_self, y148, y147, x18, hil', hq6]
              rw [List.take_of_length_le (by simp)]
              exact sealLL_pure _ _ _ (encTs_pure M)
          rw [← plus_none hlw6]
          have hil' := inb_true hil
          have hi0 : (0 ≤ (i : Int)) = True := by simp
          have hq6 : D6.obj q = some (.cells 1 (rowStr (M.map tb)) 0) := by rw [hs6.2.2 q (hlw5 _ _ hq5) (by simp)]; exact hq5
          have hq6' := fun l => (plus_low D6 l (hlw6 _ _ hq6)).trans hq6
          have hgt : (rowStr (M.map tb)).getD i [] = [.lit (.string (txt 4 M[i]))] := by
            rw [rowStr, List.map_map, List.getD_eq_getElem?_getD, List.getElem?_map, List.getElem?_eq_getElem hil]
            exact congrArg (fun x => [AV.lit x]) (tb_enc _)
          have hSl6 : Slots D6 a m.P.length ks S := hSl.keep (ex := []) hlw (hDD2.trans (hs5.trans (e3 := [it]) hs6 (fun k hk h => ⟨h, by simp⟩)) (fun k hk _ => ⟨by simp, by rw [List.mem_singleton]; omega⟩)) (by simp) (fun _ _ _ _ => by simp)
          have hrw6 := fun l => (plus_low D6 l (hSl6.lt hlw6).1).trans hSl6.row
          have hrg6 := (range_get hrl (fun g => [slotV (ks g)])).trans (show _ = [AV.mp k] by rw [hk]; rfl)
          have hm6 := hSl6.map _ _ hrl hk
          rw [hL] at hm6
          have hm6' := fun l => (plus_low D6 l (hlw6 _ _ hm6)).trans hm6
          have hfd := kvM_find hgL (hMm _ (List.getElem_mem hil))
          have hfa := kvM_at (txt 4 M[i]) L
          have htk : M.take (i + 1) = M.take i ++ [M[i]] := by simp [List.take_append_getElem]
          generalize M[i] = x at hgt hfd hfa htk
          have hrln : (rowStr (M.map tb)).length = M.length := by rw [rowStr, List.length_map, List.length_map]
          have hrows : (M.take (i + 1)).map encT = (M.take i).map encT ++ [encT x] := by rw [htk, List.map_append]; rfl
          have hln6 : ((M.take i).map encT).length = i := by rw [List.length_map, List.length_take]; omega
          have hnx : ∀ (T : Tm) (D7 : AH), SameE [] D5 D7 → HasT T [(148, .int (i + 1 : Nat)), (147, .int M.length), (146, .rsl q 1 0 M.length), (6, .rsl a 1 0 m.P.length), (5, .sl ((rootsS m.P).map encI)), (1, .int g)] → RowT D5.nxt 18 T D7 2 ((M.take (i + 1)).map encT) → NextR (LoopO [(147, .int M.length), (146, .rsl q 1 0 M.length), (6, .rsl a 1 0 m.P.length), (5, .sl ((rootsS m.P).map encI)), (1, .int g)] M D5) n6 T D7 := fun T D7 k1 k2 k3 => by
            refine ⟨n6 - 1, by omega, ?_⟩
            rw [LoopO, show M.length - (n6 - 1) = i + 1 by omega]
            exact ⟨k2, by omega, k1, k3⟩
          rw [hrows] at hnx
          have hLl2 : M.length ≤ 184 := by rw [hMl, hsl]; exact hLl
          generalize (M.take i).map encT = rows at hrow6 hnx hln6
          rcases hrow6 with ⟨rfl, x18⟩ | ⟨h0, q6, x18, hq6b, hqn6⟩
          · push_cast -implicitDefEqProofs [eq_self, iff_self, y148, y147, y146, y6, y5, y1, hil', hi0, hq6', hgt, hrw6, hr0, hr1, hrg6, List.length_range, hm6', hfd, hfa, hgR, hg0', hg0'', x18, hrln]
            rw [wrap64 (by omega) (by omega)]
            refine ⟨hil, hrl, hnx _ _ (hs6.plus _) ?_ (.inr ⟨by simp, D6.nxt + 1, rfl, plus_obj D6 _ 1, by have := hs6.2.1; omega⟩)⟩
            push_cast -implicitDefEqProofs [eq_self, iff_self, y147, y146, y6, y5, y1]
          · have hq6b' := fun l => (plus_low D6 l (hlw6 _ _ hq6b)).trans hq6b
            push_cast -implicitDefEqProofs [eq_self, iff_self, y148, y147, y146, y6, y5, y1, hil', hi0, hq6', hgt, hrw6, hr0, hr1, hrg6, List.length_range, hm6', hfd, hfa, hgR, hg0', hg0'', x18, hq6b', hrln]
            rw [wrap64 (by omega) (by omega)]
            obtain ⟨k1, k2, k3⟩ := same_grow (x := some (.cells 2 [encT x] 0)) (o := .cells 2 (List.take rows.length rows ++ [encT x]) 0) hs6 hqn6 (hlw6 _ _ hq6b)
            refine ⟨hil, hrl, by omega, hnx _ _ k1 ?_ (.inr ⟨by simp, D6.nxt + 1, ?_, ?_, by have := hs6.2.1; omega⟩)⟩
            · push_cast -implicitDefEqProofs [eq_self, iff_self, y147, y146, y6, y5, y1]
            · rw [List.length_append, List.length_cons, List.length_nil]; rfl
            · rw [k2, List.take_length]
  have hd' : ((d : Int) < 4) = True := eq_true (by omega)
  have hbm : ∀ l, (D.plus l).obj (H.nxt + 0) = some (memoC m) := fun l => by rw [plus_low D l hbx]; exact hbox
  push_cast -implicitDefEqProofs [eq_self, iff_self, t42, hd', t2, hbm, memoC_eq]
  refine ⟨by omega, ?_⟩
  refine loop_raw (fun n T D' => NodI m g H d a ks S D (m.N.length - n) T D' ∧ n ≤ m.N.length) m.N.length ?_ ?_
  · refine ⟨⟨fun _ => none, fun _ => [], by omega, ?_, (SameE.refl hlw).plus _, by rw [plus_nxt]; simp, slots_none (by rw [plus_obj]; rfl), (fun r k _ h => by cases h), fun r hr t => ⟨(fun h => by cases h), fun h => (mkU_zero m d r t (by rw [Nat.sub_self] at h; exact h)).elim⟩⟩, Nat.le_refl _⟩
    rw [Nat.sub_self]
    push_cast -implicitDefEqProofs [eq_self, iff_self, t42, t6, t5, t2, t1]
  rintro n1 T1 D1 ⟨⟨kb, SB, he, hT1, hDD, hDn, hSlB, hkb, hSB⟩, hn1⟩
  generalize hee : m.N.length - n1 = e at he hT1 hSB
  simp only [hasT_cons, hasT_nil, and_true] at hT1
  obtain ⟨u51, u50, u49, u7, u42, u6, u5, u2, u1⟩ := hT1
  have hlw1 := hDD.1
  rw [← plus_none hlw1]
  have hSlA1 : Slots D1 a m.P.length ks S := hSl.keep hlw hDD (by simp) (fun _ _ _ _ => by simp)
  have hbox1 : D1.obj (H.nxt + 0) = some (memoC m) := by rw [hDD.2.2 _ hbx (by simp)]; exact hbox
  have hbx1 : H.nxt + 0 < D1.nxt := by omega
  have hbm1 : ∀ l, (D1.plus l).obj (H.nxt + 0) = some (memoC m) := fun l => by rw [plus_low D1 l hbx1]; exact hbox1
  by_cases hel : e < m.N.length
  case neg =>
    obtain rfl : e = m.N.length := by omega
    have he' : ((m.N.length : Int) < (m.N.length : Int)) = False := eq_false (by omega)
    push_cast -implicitDefEqProofs [eq_self, iff_self, u51, u50, u7, u42, he']
    rw [wrap64 (by omega) (by omega)]
    refine ⟨n - 1, by omega, ⟨D.nxt + 0, kb, SB, by omega, ?_, ?_, hHD.2.1, ?_, ?_, ?_, fun r hr t => ?_⟩, by omega⟩
    · rw [show 4 - (n - 1) = d + 1 by omega]
      push_cast -implicitDefEqProofs [eq_self, iff_self, u5, u2, u1]
    · rw [plus_none hlw1]; exact hHD.trans hDD (fun _ _ _ => ⟨by simp, by simp⟩)
    · exact hbm1 []
    · rw [plus_none hlw1]; omega
    · rw [plus_none hlw1]; exact hSlB
    · rw [show 4 - (n - 1) = d + 1 by omega, hSB r hr t]; exact mkU_all m d r t
  have he' := inb_true hel
  have he0 : (0 ≤ (e : Int)) = True := by simp
  have heG := inb_true (n := e) (k := m.G.length) (by omega)
  have hgN := encN_get m.N e hel
  have hgG := int_at (p := m.G) (i := e) (by omega)
  have hGe := form_G hf hel
  have hgR := int_at (p := rootsS m.P) (i := (m.G.getD e 0).toNat) (by omega)
  have hRe : (rootsS m.P).getD (m.G.getD e 0).toNat 0 = (rgM m e : Int) := rootsS_at hP (by omega)
  rw [hRe] at hgR
  have hrl : rgM m e < m.P.length := Nat.lt_of_le_of_lt (rootN_le hP (by omega)) (by omega)
  generalize hat : rgM m e = at0 at hgR hRe hrl
  have hrow := fun l => (plus_low D1 l (hSlB.lt hlw1).1).trans hSlB.row
  have hat0 : (0 ≤ (at0 : Int)) = True := by simp
  have hat1 := inb_true hrl
  have hrg := range_get hrl (fun g => [slotV (kb g)])
  have hrB := (hSlB.lt hlw1).1
  have hset := fun l o => plus_setlow D1 l hrB o
  have hS1 : ∀ o l k, ((D1.set (D.nxt + 0) o).plus l).obj (D1.nxt + k) = (l[k]?).join := fun o l k => plus_obj (D1.set (D.nxt + 0) o) l k
  have hnew : ∀ x l, kb at0 = none → Slots ((D1.set (D.nxt + 0) (.cells 1 (((List.range m.P.length).map fun g => [slotV (kb g)]).set at0 [AV.mp (D1.nxt + 1)]) 0)).plus (x :: some (.amap []) :: l)) (D.nxt + 0) m.P.length (fun r => if r = at0 then some (D1.nxt + 1) else kb r) SB := fun x l hkb => by
    refine hSlB.fresh hlw1 hrl hkb (by omega) (plus_obj _ _ 1) ?_ ?_
    · exact (plus_low (D1.set (D.nxt + 0) _) _ hrB).trans (set_at _ _ _)
    · intro k hk hkr
      exact (plus_low (D1.set (D.nxt + 0) _) _ hk).trans (set_off _ _ hkr)
  have hsame : ∀ o l, SameE [] D ((D1.set (D.nxt + 0) o).plus l) := fun o l => (hDD.set hrB (.inr (by omega))).plus l
  have hgt : ∀ r k, r < m.P.length → (if r = at0 then some (D1.nxt + 1) else kb r) = some k → D.nxt ≤ k := fun r k hr hk => by
    split at hk
    · injection hk with hk; omega
    · exact hkb r k hr hk
  cases hj : (m.N.getD e nd0).jn with
  | false =>
    apply join_at (F := NodF m g H d a S D e at0 SB)
    case use =>
      intro key
      cases hkb0 : kb at0 with
      | none =>
        rw [hkb0] at hrg
        have hrg' := hrg.trans (show [slotV none] = [AV.lit (.map none)] from rfl)
        push_cast -implicitDefEqProofs [eq_self, iff_self, u51, u50, u49, u7, u5, u2, he', he0, heG, hgN, hgG, hgR, hbm1, memoC_eq, hrow, hat0, hat1, hrg', hj, List.length_range, hset, hS1]
        refine ⟨⟨hGe.1, by omega⟩, hrl, ⟨_, _, rfl⟩, hrl, key _ _ ⟨_, D1.nxt + 1, D1.nxt + 0, ?_, hsame _ _, by rw [plus_nxt]; exact Nat.lt_of_lt_of_le hDn (Nat.le_add_right _ _), hnew _ [] hkb0, hgt, if_pos rfl, ?_, by omega⟩⟩
        · push_cast -implicitDefEqProofs [eq_self, iff_self, u51, u50, u49, u7, u42, u6, u5, u2, u1]
        · push_cast -implicitDefEqProofs [eq_self, iff_self, hS1, hj]
      | some kB =>
        rw [hkb0] at hrg
        have hrg' := hrg.trans (show [slotV (some kB)] = [AV.mp kB] from rfl)
        push_cast -implicitDefEqProofs [eq_self, iff_self, u51, u50, u49, u7, u5, u2, he', he0, heG, hgN, hgG, hgR, hbm1, memoC_eq, hrow, hat0, hat1, hrg', hj, List.length_range]
        refine ⟨⟨hGe.1, by omega⟩, hrl, ⟨_, _, rfl⟩, key _ _ ⟨kb, kB, D1.nxt + 0, ?_, hDD.plus _, by rw [plus_nxt]; omega, hSlB.keep hlw1 ((SameE.refl (ex := []) hlw1).plus _) (by simp) (fun _ _ _ _ => by simp), hkb, hkb0, ?_, by omega⟩⟩
        · push_cast -implicitDefEqProofs [eq_self, iff_self, u51, u50, u49, u7, u42, u6, u5, u2, u1]
        · push_cast -implicitDefEqProofs [eq_self, iff_self, plus_obj, hj]
    case rest =>
      rintro T2 D2 ⟨kb2, kB, q, hT2, hDD2, hDn2, hSl2, hkb2, hkB, hq, hqn⟩
      simp only [hasT_cons, hasT_nil, and_true] at hT2
      obtain ⟨v51, v50, v49, v7, v42, v6, v5, v2, v1, v10, v9⟩ := hT2
      have hlw2 := hDD2.1
      rw [← plus_none hlw2]
      have hrow2 := fun l => (plus_low D2 l (hSl2.lt hlw2).1).trans hSl2.row
      have hq2 := fun l => (plus_low D2 l (hlw2 _ _ hq)).trans hq
      have hkn := (hSl2.lt hlw2).2 _ _ hrl hkB
      have hmp2 := fun l => (plus_low D2 l hkn).trans (hSl2.map _ _ hrl hkB)
      have hrg2 : ((List.range m.P.length).map fun g => [slotV (kb2 g)]).getD at0 [] = [.mp kB] := (range_get hrl (fun g => [slotV (kb2 g)])).trans (by rw [hkB]; rfl)
      have hnl := node_leaf (form_N hf hel) hj
      have hmay : (Tr.leaf (m.N.getD e nd0).occ).may = true := by
        show (setT 4 (.mk (m.N.getD e nd0).occ [])).2 = true
        rw [setT_nil, decide_eq_true hnl.2.2.1, decide_eq_true hnl.2.2.2]; rfl
      have hgood := hSl2.good at0 hrl
      have hput := kvM_put hgood hmay
      have hfa := kvM_at (txt 4 (Tr.leaf (m.N.getD e nd0).occ)) (SB at0)
      have hsk := fun o => plus_setlow D2 [] hkn o
      refine areg_at 11 (by kernel_rfl) (by kernel_rfl) ?_
      push_cast -implicitDefEqProofs [eq_self, iff_self, v7, v10, v9, v51, hrow2, hq2, hat0, hat1, hrg2, List.length_range, hmp2, hput, hfa, hsk]
      refine ⟨hrl, ?_⟩
      refine ahdq (Leaf_ok _) ?_
      push_cast -implicitDefEqProofs [eq_self, iff_self, v7, v10, v9, v51, hrow2, hq2, hat0, hat1, hrg2, List.length_range, hmp2, hput, hfa, hsk]
      refine ahdq (TextT_ok _ (may_ok hmay) hmay) ?_
      push_cast -implicitDefEqProofs [eq_self, iff_self, v7, v10, v9, v51, hrow2, hq2, hat0, hat1, hrg2, List.length_range, hmp2, hput, hfa, hsk]
      refine ahdq (Leaf_ok _) ?_
      push_cast -implicitDefEqProofs [eq_self, iff_self, v7, v10, v9, v51, hrow2, hq2, hat0, hat1, hrg2, List.length_range, hmp2, hput, hfa, hsk]
      rw [wrap64 (by omega) (by omega)]
      refine ⟨n1 - 1, by omega, ?_, by omega⟩
      rw [show m.N.length - (n1 - 1) = e + 1 by omega]
      refine node_next (L := addM (SB at0) (Tr.leaf (m.N.getD e nd0).occ)) hel hat hrl hDD2 hDn2 hSl2 hkb2 hkB hSB (ex := [kB]) ?_ (fun k hk => by rw [List.mem_singleton] at hk; rw [hk]; exact hkb2 _ _ hrl hkB) (fun h => by rw [List.mem_singleton] at h; exact hSl2.ne hrl hkB h.symm) (fun _ k _ _ hk => List.mem_singleton.1 hk) ?_ (hgood.add hmay) (fun t => ?_) ?_
      · exact ((SameE.refl hlw2).set hkn (.inl (by simp))).plus _
      · exact (plus_low (D2.set kB _) _ hkn).trans (set_at _ _ _)
      · rw [mem_addM, stepM, if_neg (by rw [hj]; decide)]
      · push_cast -implicitDefEqProofs [eq_self, iff_self, v51, v50, v49, v7, v42, v6, v5, v2, v1]
  | true =>
    have hnj := node_join (form_N hf hel) hj
    have hra : raM m e < m.P.length := Nat.lt_of_le_of_lt (rootN_le hP (by omega)) (by omega)
    have hga := int_at (p := rootsS m.P) (i := (m.N.getD e nd0).a.toNat) (by omega)
    have hRa : (rootsS m.P).getD (m.N.getD e nd0).a.toNat 0 = (raM m e : Int) := rootsS_at hP (by omega)
    rw [hRa] at hga
    have ha0 : (0 ≤ (raM m e : Int)) = True := by simp
    have ha1 := inb_true hra
    have haD : a < D.nxt := (hSl.lt hlw).1
    have hrowA := fun l => (plus_low D1 l (hSlA1.lt hlw1).1).trans hSlA1.row
    have hrowA' : ∀ o l, ((D1.set (D.nxt + 0) o).plus l).obj a = _ := fun o l => (plus_low (D1.set (D.nxt + 0) o) l (hSlA1.lt hlw1).1).trans ((set_off _ _ (by omega)).trans hSlA1.row)
    have hrga := range_get hra (fun g => [slotV (ks g)])
    apply join_at (F := NodJ m g H d a ks S D e at0 SB)
    case use =>
      intro key
      cases hka : ks (raM m e) with
      | none =>
        rw [hka] at hrga
        have hrga' := hrga.trans (show [slotV none] = [AV.lit (.map none)] from rfl)
        cases hkb0 : kb at0 with
        | none =>
          rw [hkb0] at hrg
          have hrg' := hrg.trans (show [slotV none] = [AV.lit (.map none)] from rfl)
          push_cast -implicitDefEqProofs [eq_self, iff_self, u51, u50, u49, u7, u6, u5, u2, he', he0, heG, hgN, hgG, hgR, hbm1, memoC_eq, hrow, hat0, hat1, hrg', hj, List.length_range, hset, hS1, hga, ha0, ha1, hrowA', hrga']
          refine ⟨⟨hGe.1, by omega⟩, hrl, ⟨_, _, rfl⟩, hrl, ⟨hnj.2.1.1, by omega⟩, hra, ⟨_, _, rfl⟩, key _ _ ⟨_, D1.nxt + 1, D1.nxt + 0, D1.nxt + 2, ?_, hsame _ _, by rw [plus_nxt]; exact Nat.lt_of_lt_of_le hDn (Nat.le_add_right _ _), hnew _ _ hkb0, hgt, if_pos rfl, ?_, by omega, ?_, by omega, by omega⟩⟩
          · push_cast -implicitDefEqProofs [eq_self, iff_self, u51, u50, u49, u7, u42, u6, u5, u2, u1]
          · push_cast -implicitDefEqProofs [eq_self, iff_self, hS1, hj]
          · rw [hka]
            exact hS1 _ _ 2
        | some kB =>
          rw [hkb0] at hrg
          have hrg' := hrg.trans (show [slotV (some kB)] = [AV.mp kB] from rfl)
          push_cast -implicitDefEqProofs [eq_self, iff_self, u51, u50, u49, u7, u6, u5, u2, he', he0, heG, hgN, hgG, hgR, hbm1, memoC_eq, hrow, hat0, hat1, hrg', hj, List.length_range, hset, hS1, hga, ha0, ha1, hrowA, hrga']
          refine ⟨⟨hGe.1, by omega⟩, hrl, ⟨_, _, rfl⟩, ⟨hnj.2.1.1, by omega⟩, hra, ⟨_, _, rfl⟩, key _ _ ⟨kb, kB, D1.nxt + 0, D1.nxt + 1, ?_, hDD.plus _, by rw [plus_nxt]; omega, hSlB.keep hlw1 ((SameE.refl (ex := []) hlw1).plus _) (by simp) (fun _ _ _ _ => by simp), hkb, hkb0, ?_, by omega, ?_, by omega, by have := (hSlB.lt hlw1).2 _ _ hrl hkb0; omega⟩⟩
          · push_cast -implicitDefEqProofs [eq_self, iff_self, u51, u50, u49, u7, u42, u6, u5, u2, u1]
          · push_cast -implicitDefEqProofs [eq_self, iff_self, plus_obj, hj]
          · rw [hka]
            exact plus_obj D1 _ 1
      | some kA =>
        rw [hka] at hrga
        have hrga' := hrga.trans (show [slotV (some kA)] = [AV.mp kA] from rfl)
        have hkAD : kA < D.nxt := (hSl.lt hlw).2 _ _ hra hka
        have hmA0 := hSlA1.map _ _ hra hka
        have hmA := fun l => (plus_low D1 l ((hSlA1.lt hlw1).2 _ _ hra hka)).trans hmA0
        have hmA' : ∀ o l, ((D1.set (D.nxt + 0) o).plus l).obj kA = _ := fun o l => (plus_low (D1.set (D.nxt + 0) o) l ((hSlA1.lt hlw1).2 _ _ hra hka)).trans ((set_off _ _ (by omega)).trans hmA0)
        cases hkb0 : kb at0 with
        | none =>
          rw [hkb0] at hrg
          have hrg' := hrg.trans (show [slotV none] = [AV.lit (.map none)] from rfl)
          push_cast -implicitDefEqProofs [eq_self, iff_self, u51, u50, u49, u7, u6, u5, u2, he', he0, heG, hgN, hgG, hgR, hbm1, memoC_eq, hrow, hat0, hat1, hrg', hj, List.length_range, hset, hS1, hga, ha0, ha1, hrowA', hrga', hmA']
          refine ⟨⟨hGe.1, by omega⟩, hrl, ⟨_, _, rfl⟩, hrl, ⟨hnj.2.1.1, by omega⟩, hra, ⟨_, _, rfl⟩, key _ _ ⟨_, D1.nxt + 1, D1.nxt + 0, D1.nxt + 2, ?_, hsame _ _, by rw [plus_nxt]; exact Nat.lt_of_lt_of_le hDn (Nat.le_add_right _ _), hnew _ _ hkb0, hgt, if_pos rfl, ?_, by omega, ?_, by omega, by omega⟩⟩
          · push_cast -implicitDefEqProofs [eq_self, iff_self, u51, u50, u49, u7, u42, u6, u5, u2, u1]
          · push_cast -implicitDefEqProofs [eq_self, iff_self, hS1, hj]
          · rw [hka]
            exact ⟨(hS1 _ _ 2).trans (by simp), hmA' _ _⟩
        | some kB =>
          rw [hkb0] at hrg
          have hrg' := hrg.trans (show [slotV (some kB)] = [AV.mp kB] from rfl)
          push_cast -implicitDefEqProofs [eq_self, iff_self, u51, u50, u49, u7, u6, u5, u2, he', he0, heG, hgN, hgG, hgR, hbm1, memoC_eq, hrow, hat0, hat1, hrg', hj, List.length_range, hset, hS1, hga, ha0, ha1, hrowA, hrga', hmA]
          refine ⟨⟨hGe.1, by omega⟩, hrl, ⟨_, _, rfl⟩, ⟨hnj.2.1.1, by omega⟩, hra, ⟨_, _, rfl⟩, key _ _ ⟨kb, kB, D1.nxt + 0, D1.nxt + 1, ?_, hDD.plus _, by rw [plus_nxt]; omega, hSlB.keep hlw1 ((SameE.refl (ex := []) hlw1).plus _) (by simp) (fun _ _ _ _ => by simp), hkb, hkb0, ?_, by omega, ?_, by omega, by have := (hSlB.lt hlw1).2 _ _ hrl hkb0; omega⟩⟩
          · push_cast -implicitDefEqProofs [eq_self, iff_self, u51, u50, u49, u7, u42, u6, u5, u2, u1]
          · push_cast -implicitDefEqProofs [eq_self, iff_self, plus_obj, hj]
          · rw [hka]
            exact ⟨(plus_obj D1 _ 1).trans (by simp), hmA _⟩
    case rest =>
      rintro T2 D2 ⟨kb2, kB, q, it, hT2, hDD2, hDn2, hSl2, hkb2, hkB, hq, hqn, hit, hitn, hitk⟩
      have hlw2 := hDD2.1
      have hgood := hSl2.good at0 hrl
      have hrb : rbM m e < m.P.length := Nat.lt_of_le_of_lt (rootN_le hP (by omega)) (by omega)
      have hgb := int_at (p := rootsS m.P) (i := (m.N.getD e nd0).b.toNat) (by omega)
      have hRb : (rootsS m.P).getD (m.N.getD e nd0).b.toNat 0 = (rbM m e : Int) := rootsS_at hP (by omega)
      rw [hRb] at hgb
      have hb0 : (0 ≤ (rbM m e : Int)) = True := by simp
      have hb1 := inb_true hrb
      have hgX := hSl.good _ hra
      have hgY := hSl.good _ hrb
      have hkBn := (hSl2.lt hlw2).2 _ _ hrl hkB
      have hkB0 := hkb2 _ _ hrl hkB
      have hSlA2 : Slots D2 a m.P.length ks S := hSl.keep hlw hDD2 (by simp) (fun _ _ _ _ => by simp)
      have hitD2 : it < D2.nxt := by
        cases hko : ks (raM m e) with
        | none => rw [hko] at hit; exact hlw2 _ _ hit
        | some k => rw [hko] at hit; exact hlw2 _ _ hit.1
      have hitM : ∀ r k, r < m.P.length → kb2 r = some k → k ≠ it := fun r k hr hk e0 => by
        have h1 := hSl2.map r k hr hk
        rw [e0] at h1
        cases hko : ks (raM m e) with
        | none => rw [hko] at hit; have hit' : D2.obj it = some .anit := hit; rw [hit'] at h1; cases h1
        | some k => rw [hko] at hit; have hit' := hit.1; rw [hit'] at h1; cases h1
      have hitB : it ≠ D.nxt + 0 := fun e0 => by
        have h1 := hSl2.row
        rw [← e0] at h1
        cases hko : ks (raM m e) with
        | none => rw [hko] at hit; have hit' : D2.obj it = some .anit := hit; rw [hit'] at h1; cases h1
        | some k => rw [hko] at hit; have hit' := hit.1; rw [hit'] at h1; cases h1
      have hnext : ∀ T3 D3 L, SameE [kB, it] D2 D3 → D3.obj kB = some (.amap (L.map kvM)) → GoodL L → (∀ t, t ∈ L ↔ t ∈ SB at0 ∨ stepM m (mkT m d) e t) → HasT T3 [(51, .int (e + 1 : Nat)), (50, .int m.N.length), (49, .sl (m.N.map encN)), (7, .rsl (D.nxt + 0) 1 0 m.P.length), (42, .int d), (6, .rsl a 1 0 m.P.length), (5, .sl ((rootsS m.P).map encI)), (2, .ptr (H.nxt + 0) 3 0 0), (1, .int g)] →
          NextR (fun n T D' => NodI m g H d a ks S D (m.N.length - n) T D' ∧ n ≤ m.N.length) n1 T3 D3 := fun T3 D3 L k1 k2 k3 k4 k5 => by
        refine ⟨n1 - 1, by omega, ?_, by omega⟩
        rw [show m.N.length - (n1 - 1) = e + 1 by omega]
        refine node_next hel hat hrl hDD2 hDn2 hSl2 hkb2 hkB hSB k1 (fun k hk => ?_) (fun h => ?_) (fun g0 k hg0 hk hx => ?_) k2 k3 k4 k5
        · simp only [List.mem_cons, List.not_mem_nil, or_false] at hk
          rcases hk with rfl | rfl
          · exact hkB0
          · exact hitn
        · simp only [List.mem_cons, List.not_mem_nil, or_false] at h
          rcases h with h | h
          · exact hSl2.ne hrl hkB h.symm
          · exact hitB h.symm
        · simp only [List.mem_cons, List.not_mem_nil, or_false] at hx
          rcases hx with h | h
          · exact h
          · exact absurd h (hitM g0 k hg0 hk)
      refine loop_raw (LoopX (topT m g H d a D e at0 q it) (S (raM m e)) (S (rbM m e)) (SB at0) kB it (ks (raM m e)) D2) (S (raM m e)).length ⟨[], SB at0, hT2, SameE.refl hlw2, hSl2.map _ _ hrl hkB, hgood, hit, List.nodup_nil, (fun j h => by cases h), fun t => ⟨.inl, fun h => h.resolve_right (by rintro ⟨j, h, _⟩; cases h)⟩, by simp⟩ ?_
      rintro n2 T3 D3 ⟨seen, L, hT3, hs3, hL3, hgL, hit3, hnd, hsn, hmem, hn2⟩
      simp only [topT_eq, hasT_cons, hasT_nil, and_true] at hT3
      obtain ⟨w51, w50, w49, w7, w42, w6, w5, w2, w1, w10, w9, w95⟩ := hT3
      have hlw3 := hs3.1
      rw [← plus_none hlw3]
      have hend : (∀ j, j < (S (raM m e)).length → j ∈ seen) → ∀ t, t ∈ L ↔ t ∈ SB at0 ∨ stepM m (mkT m d) e t := fun hall t => by
        rw [hmem, stepM, if_pos hj]
        constructor
        · rintro (h | ⟨j, _, x, hx, y, hy, rfl, hmy⟩)
          · exact .inl h
          · exact .inr ⟨x, y, (hS _ hra x).1 (List.mem_of_getElem? hx), (hS _ hrb y).1 hy, rfl, hmy⟩
        · rintro (h | ⟨x, y, hx, hy, rfl, hmy⟩)
          · exact .inl h
          · obtain ⟨j, hj, hjx⟩ := List.getElem_of_mem ((hS _ hra x).2 hx)
            exact .inr ⟨j, hall j hj, x, by rw [List.getElem?_eq_getElem hj, hjx], y, (hS _ hrb y).2 hy, rfl, hmy⟩
      cases hka : ks (raM m e) with
      | none =>
        have hLX := hSl.nil _ hra hka
        rw [hka] at hit3
        have hit3' : ∀ l, (D3.plus l).obj it = some .anit := fun l => (plus_low D3 l (by have := hs3.2.1; omega)).trans hit3
        push_cast -implicitDefEqProofs [eq_self, iff_self, w51, w95, hit3', List.mem_singleton]
        rw [wrap64 (by omega) (by omega), plus_none hlw3]
        refine hnext _ _ L hs3 hL3 hgL (hend fun j hj => by rw [hLX] at hj; exact absurd hj (by simp)) ?_
        push_cast -implicitDefEqProofs [eq_self, iff_self, w51, w50, w49, w7, w42, w6, w5, w2, w1]
      | some kA =>
        rw [hka] at hit3
        have hitD3 : it < D3.nxt := Nat.lt_of_lt_of_le hitD2 hs3.2.1
        have hkA3 : kA < D3.nxt := hlw3 _ _ hit3.2
        have hit3' := fun l => (plus_low D3 l hitD3).trans hit3.1
        have hmA3 := fun l => (plus_low D3 l hkA3).trans hit3.2
        have hkAD : kA < D.nxt := (hSl.lt hlw).2 _ _ hra hka
        have hlenX : ((S (raM m e)).map kvM).length = (S (raM m e)).length := List.length_map _
        push_cast -implicitDefEqProofs [eq_self, iff_self, w95, hit3', hmA3]
        refine fun y hy => ?_
        rw [anexts] at hy
        by_cases hu : unseen (S (raM m e)).length seen = []
        · rw [if_pos hu] at hy
          obtain rfl := List.mem_singleton.1 hy
          push_cast -implicitDefEqProofs [eq_self, iff_self, w51]
          rw [wrap64 (by omega) (by omega), plus_none hlw3]
          refine hnext _ _ L hs3 hL3 hgL (hend fun j hj => unseen_none hu hj) ?_
          push_cast -implicitDefEqProofs [eq_self, iff_self, w51, w50, w49, w7, w42, w6, w5, w2, w1]
        rw [if_neg hu] at hy
        obtain ⟨j, hju, rfl⟩ := List.mem_map.1 hy
        obtain ⟨hjl, hjs⟩ := mem_unseen hju
        obtain ⟨hnd', hsn', hlt'⟩ := seen_add hnd hsn hjl hjs
        have hxj : (S (raM m e))[j]? = some (S (raM m e))[j] := List.getElem?_eq_getElem hjl
        have hxm : (S (raM m e))[j].may = true := hgX.2 _ (List.getElem_mem hjl)
        generalize (S (raM m e))[j] = x at hxj hxm
        have hkx : ((S (raM m e)).map kvM)[j]? = some (.string (txt 4 x), .agg (encT x)) := by rw [List.getElem?_map, hxj]; rfl
        have hsk := plus_setlow D3 [] hitD3 (.amit kA (S (raM m e)).length (seen ++ [j]))
        obtain ⟨D4, hD4⟩ : ∃ D4, D4 = D3.set it (.amit kA (S (raM m e)).length (seen ++ [j])) := ⟨_, rfl⟩
        rw [← hD4] at hsk
        have hs4 : SameE [kB, it] D2 D4 := by rw [hD4]; exact hs3.set hitD3 (.inl (by simp))
        have hlw4 := hs4.1
        have hit4 : D4.obj it = some (.amit kA (S (raM m e)).length (seen ++ [j])) := by rw [hD4, set_at]
        have hkAit : kA ≠ it := fun e0 => by have h1 := hit3.2; rw [e0, hit3.1] at h1; cases h1
        have hkBit : kB ≠ it := fun e0 => hitk e0.symm
        have hmA4 : D4.obj kA = some (.amap ((S (raM m e)).map kvM)) := by rw [hD4, set_off _ _ hkAit]; exact hit3.2
        have hL4 : D4.obj kB = some (.amap (L.map kvM)) := by rw [hD4, set_off _ _ hkBit]; exact hL3
        have hD4n : D4.nxt = D3.nxt := by rw [hD4]; rfl
        have hit4' := fun l => (plus_low D4 l (hlw4 _ _ hit4)).trans hit4
        have hmA4' := fun l => (plus_low D4 l (hlw4 _ _ hmA4)).trans hmA4
        have hSlA4 : Slots D4 a m.P.length ks S := hSlA2.keep hlw2 hs4 (fun h => by
          simp only [List.mem_cons, List.not_mem_nil, or_false] at h
          have := (hSl.lt hlw).1
          rcases h with h | h <;> omega) (fun g0 k hg0 hk h => by
          simp only [List.mem_cons, List.not_mem_nil, or_false] at h
          have := (hSl.lt hlw).2 g0 k hg0 hk
          rcases h with h | h <;> omega)
        have hrow4 := fun l => (plus_low D4 l (hSlA4.lt hlw4).1).trans hSlA4.row
        have hrgb := range_get hrb (fun g => [slotV (ks g)])
        have hq4 : D4.obj q = some (.cells 4 [encN (m.N.getD e nd0)] 0) := by
          rw [hs4.2.2 q (hlw2 _ _ hq) (fun h => ?_)]
          · exact hq
          · simp only [List.mem_cons, List.not_mem_nil, or_false] at h
            rcases h with h | h
            · have h1 := hSl2.map _ _ hrl hkB; rw [← h, hq] at h1; cases h1
            · rw [hka] at hit
              have h1 := hit.1
              rw [← h, hq] at h1; cases h1
        have hq4' := fun l => (plus_low D4 l (hlw4 _ _ hq4)).trans hq4
        rw [hsk]
        apply join_at (F := NodY (topT m g H d a D e at0 q it) x (S (rbM m e)) (ks (rbM m e)) D4)
        case use =>
          intro key
          cases hkb3 : ks (rbM m e) with
          | none =>
            rw [hkb3] at hrgb key
            have hrgb' := hrgb.trans (show [slotV none] = [AV.lit (.map none)] from rfl)
            push_cast -implicitDefEqProofs [eq_self, iff_self, w95, hit4', hmA4', List.getLast?_concat, hkx, w6, w5, w9, hq4', hgb, hb0, hb1, hrow4, hrgb', List.length_range]
            refine ⟨⟨hnj.2.2.1, by omega⟩, hrb, ⟨_, _, rfl⟩, key _ _ ⟨D4.nxt + 0, D4.nxt + 1, ?_, rfl, rfl, (SameE.refl hlw4).plus _, ?_, plus_obj D4 _ 1, by omega, by omega⟩⟩
            · rw [topT_eq]
              push_cast -implicitDefEqProofs [eq_self, iff_self, w51, w50, w49, w7, w42, w6, w5, w2, w1, w10, w9, w95]
            · push_cast -implicitDefEqProofs [eq_self, iff_self, plus_obj]
          | some kC =>
            rw [hkb3] at hrgb key
            have hrgb' := hrgb.trans (show [slotV (some kC)] = [AV.mp kC] from rfl)
            have hmC4 := hSlA4.map _ _ hrb hkb3
            have hmC4' := fun l => (plus_low D4 l (hlw4 _ _ hmC4)).trans hmC4
            push_cast -implicitDefEqProofs [eq_self, iff_self, w95, hit4', hmA4', List.getLast?_concat, hkx, w6, w5, w9, hq4', hgb, hb0, hb1, hrow4, hrgb', List.length_range, hmC4']
            refine ⟨⟨hnj.2.2.1, by omega⟩, hrb, ⟨_, _, rfl⟩, key _ _ ⟨D4.nxt + 0, D4.nxt + 1, ?_, rfl, rfl, (SameE.refl hlw4).plus _, ?_, ⟨(plus_obj D4 _ 1).trans (by simp), hmC4' _⟩, by omega, by omega⟩⟩
            · rw [topT_eq]
              push_cast -implicitDefEqProofs [eq_self, iff_self, w51, w50, w49, w7, w42, w6, w5, w2, w1, w10, w9, w95]
            · push_cast -implicitDefEqProofs [eq_self, iff_self, plus_obj]
        case rest =>
          rintro T5 D5 ⟨q12, it2, hT5, x12, x108, hs5, hq12, hit5, hq12n, hit2n⟩
          have hlw5 := hs5.1
          have hL5 : D5.obj kB = some (.amap (L.map kvM)) := by rw [hs5.2.2 kB (hlw4 _ _ hL4) (by simp)]; exact hL4
          have hkBn5 : kB < D5.nxt := hlw5 _ _ hL5
          refine loop_raw (LoopY (topT m g H d a D e at0 q it) x (S (rbM m e)) L kB it2 q12 (ks (rbM m e)) D5) (S (rbM m e)).length ⟨[], L, ⟨hT5, x12, x108⟩, SameE.refl hlw5, hL5, hgL, hit5, List.nodup_nil, (fun j h => by cases h), fun t => ⟨.inl, fun h => h.resolve_right (by rintro ⟨j, h, _⟩; cases h)⟩, by simp⟩ ?_
          rintro n3 T6 D6 ⟨seen2, L2, ⟨hT6, y12, y108⟩, hs6, hL6, hgL2, hit6, hnd2, hsn2, hmem2, hn3⟩
          have hT6' := hT6
          simp only [topT_eq, hasT_cons, hasT_nil, and_true] at hT6
          obtain ⟨z51, z50, z49, z7, z42, z6, z5, z2, z1, z10, z9, z95⟩ := hT6
          have hlw6 := hs6.1
          have hs46 : SameE [kB] D4 D6 := hs5.trans hs6 (fun k hk h => ⟨by simp, fun h2 => by
            simp only [List.mem_cons, List.not_mem_nil, or_false] at h h2
            rcases h2 with h2 | h2
            · exact h h2
            · omega⟩)
          have hitn4 : it < D4.nxt := by rw [hD4n]; exact hitD3
          have hit6a : D6.obj it = some (.amit kA (S (raM m e)).length (seen ++ [j])) := by
            rw [hs46.2.2 it hitn4 (by simpa using hitk)]; exact hit4
          have hkAB : kA ≠ kB := by omega
          have hmA6 : D6.obj kA = some (.amap ((S (raM m e)).map kvM)) := by
            rw [hs46.2.2 kA (hlw4 _ _ hmA4) (by simpa using hkAB)]; exact hmA4
          have hs26 : SameE [kB, it] D2 D6 := hs4.trans hs46 (fun k hk h => ⟨h, fun h2 => h (by simp only [List.mem_singleton] at h2; simp [h2])⟩)
          have hendX : ∀ T7, HasT T7 (topT m g H d a D e at0 q it) → (∀ j2, j2 < (S (rbM m e)).length → j2 ∈ seen2) → NextR (LoopX (topT m g H d a D e at0 q it) (S (raM m e)) (S (rbM m e)) (SB at0) kB it (some kA) D2) n2 T7 D6 := fun T7 hT7 hall => by
            refine ⟨(S (raM m e)).length - (seen ++ [j]).length, by rw [List.length_append, List.length_cons, List.length_nil]; omega, seen ++ [j], L2, hT7, hs26, hL6, hgL2, ⟨hit6a, hmA6⟩, hnd', hsn', fun t => ?_, rfl⟩
            rw [hmem2, hmem]
            constructor
            · rintro ((h | ⟨j', hj', x', hx', y', hy', ht⟩) | ⟨j2, _, y', hy', ht⟩)
              · exact .inl h
              · exact .inr ⟨j', List.mem_append_left _ hj', x', hx', y', hy', ht⟩
              · exact .inr ⟨j, by simp, x, hxj, y', List.mem_of_getElem? hy', ht⟩
            · rintro (h | ⟨j', hj', x', hx', y', hy', ht⟩)
              · exact .inl (.inl h)
              · rcases List.mem_append.1 hj' with h | h
                · exact .inl (.inr ⟨j', h, x', hx', y', hy', ht⟩)
                · obtain rfl := List.mem_singleton.1 h
                  rw [hxj] at hx'
                  injection hx' with hx'
                  subst hx'
                  obtain ⟨j2, hj2, hjy⟩ := List.getElem_of_mem hy'
                  exact .inr ⟨j2, hall j2 hj2, y', by rw [List.getElem?_eq_getElem hj2, hjy], ht⟩
          rw [← plus_none hlw6]
          cases hkb3 : ks (rbM m e) with
          | none =>
            have hLY := hSl.nil _ hrb hkb3
            rw [hkb3] at hit6
            have hit6' : ∀ l, (D6.plus l).obj it2 = some .anit := fun l => (plus_low D6 l (hlw6 _ _ hit6)).trans hit6
            push_cast -implicitDefEqProofs [eq_self, iff_self, y108, hit6', List.mem_singleton]
            rw [plus_none hlw6]
            refine hendX _ ?_ (fun j2 hj2 => by rw [hLY] at hj2; exact absurd hj2 (by simp))
            rw [topT_eq]
            push_cast -implicitDefEqProofs [eq_self, iff_self, z51, z50, z49, z7, z42, z6, z5, z2, z1, z10, z9, z95]
          | some kC =>
            rw [hkb3] at hit6
            have hit6D : it2 < D6.nxt := hlw6 _ _ hit6.1
            have hkC6 : kC < D6.nxt := hlw6 _ _ hit6.2
            have hit6' := fun l => (plus_low D6 l hit6D).trans hit6.1
            have hmC6 := fun l => (plus_low D6 l hkC6).trans hit6.2
            have hlenY : ((S (rbM m e)).map kvM).length = (S (rbM m e)).length := List.length_map _
            push_cast -implicitDefEqProofs [eq_self, iff_self, y108, hit6', hmC6]
            refine fun z hz => ?_
            rw [anexts] at hz
            by_cases hu2 : unseen (S (rbM m e)).length seen2 = []
            · rw [if_pos hu2] at hz
              obtain rfl := List.mem_singleton.1 hz
              push_cast -implicitDefEqProofs [eq_self, iff_self]
              rw [plus_none hlw6]
              refine hendX _ ?_ (fun j2 hj2 => unseen_none hu2 hj2)
              rw [topT_eq]
              push_cast -implicitDefEqProofs [eq_self, iff_self, z51, z50, z49, z7, z42, z6, z5, z2, z1, z10, z9, z95]
            rw [if_neg hu2] at hz
            obtain ⟨j2, hju2, rfl⟩ := List.mem_map.1 hz
            obtain ⟨hjl2, hjs2⟩ := mem_unseen hju2
            obtain ⟨hnd2', hsn2', hlt2'⟩ := seen_add hnd2 hsn2 hjl2 hjs2
            have hyj : (S (rbM m e))[j2]? = some (S (rbM m e))[j2] := List.getElem?_eq_getElem hjl2
            have hym : (S (rbM m e))[j2].may = true := hgY.2 _ (List.getElem_mem hjl2)
            generalize (S (rbM m e))[j2] = yy at hyj hym
            have hky : ((S (rbM m e)).map kvM)[j2]? = some (.string (txt 4 yy), .agg (encT yy)) := by rw [List.getElem?_map, hyj]; rfl
            have hsk2 := plus_setlow D6 [] hit6D (.amit kC (S (rbM m e)).length (seen2 ++ [j2]))
            obtain ⟨D7, hD7⟩ : ∃ D7, D7 = D6.set it2 (.amit kC (S (rbM m e)).length (seen2 ++ [j2])) := ⟨_, rfl⟩
            rw [← hD7] at hsk2
            have hs7 : SameE [kB, it2] D5 D7 := by rw [hD7]; exact hs6.set hit6D (.inl (by simp))
            have hlw7 := hs7.1
            have hit7 : D7.obj it2 = some (.amit kC (S (rbM m e)).length (seen2 ++ [j2])) := by rw [hD7, set_at]
            have hkCit : kC ≠ it2 := fun e0 => by have h1 := hit6.2; rw [e0, hit6.1] at h1; cases h1
            have hkBit2 : kB ≠ it2 := fun e0 => by have h1 := hL6; rw [e0, hit6.1] at h1; cases h1
            have hmC7 : D7.obj kC = some (.amap ((S (rbM m e)).map kvM)) := by rw [hD7, set_off _ _ hkCit]; exact hit6.2
            have hL7 : D7.obj kB = some (.amap (L2.map kvM)) := by rw [hD7, set_off _ _ hkBit2]; exact hL6
            have hit7' := fun l => (plus_low D7 l (hlw7 _ _ hit7)).trans hit7
            have hmC7' := fun l => (plus_low D7 l (hlw7 _ _ hmC7)).trans hmC7
            have hL7' := fun l => (plus_low D7 l (hlw7 _ _ hL7)).trans hL7
            have hq12D : q12 < D5.nxt := hlw5 _ _ hq12
            have hq7 : D7.obj q12 = some (.cells 2 [encT x] 0) := by
              rw [hs7.2.2 q12 hq12D (fun h => ?_)]
              · exact hq12
              · simp only [List.mem_cons, List.not_mem_nil, or_false] at h
                rcases h with h | h
                · have h1 := hL5; rw [← h, hq12] at h1; cases h1
                · rw [hkb3] at hit5
                  have h1 := hit5.1
                  rw [← h, hq12] at h1; cases h1
            have hq7' := fun l => (plus_low D7 l (hlw7 _ _ hq7)).trans hq7
            rw [hsk2]
            push_cast -implicitDefEqProofs [eq_self, iff_self, y12, y108, hit7', hmC7', List.getLast?_concat, hky, hq7']
            refine callq (Join_ok x yy) ?_
            push_cast -implicitDefEqProofs [eq_self, iff_self, y12, y108, hit7', hmC7', hq7']
            refine callq (MayT_ok _ (ok_join (may_ok hxm) (may_ok hym))) ?_
            have hstep : ∀ L3 : List Tr, (∀ t, t ∈ L3 ↔ t ∈ L2 ∨ (t = .join x yy ∧ t.may = true)) → ∀ t, t ∈ L3 ↔ t ∈ L ∨ ∃ j ∈ seen2 ++ [j2], ∃ y, (S (rbM m e))[j]? = some y ∧ t = .join x y ∧ t.may = true := fun L3 h3 t => by
              rw [h3, hmem2]
              constructor
              · rintro ((h | ⟨j', hj', y', hy', ht⟩) | ht)
                · exact .inl h
                · exact .inr ⟨j', List.mem_append_left _ hj', y', hy', ht⟩
                · exact .inr ⟨j2, by simp, yy, hyj, ht⟩
              · rintro (h | ⟨j', hj', y', hy', ht⟩)
                · exact .inl (.inl h)
                · rcases List.mem_append.1 hj' with h | h
                  · exact .inl (.inr ⟨j', h, y', hy', ht⟩)
                  · obtain rfl := List.mem_singleton.1 h
                    rw [hyj] at hy'
                    injection hy' with hy'
                    subst hy'
                    exact .inr ht
            have hlt3 : (S (rbM m e)).length - (seen2 ++ [j2]).length < n3 := by rw [List.length_append, List.length_cons, List.length_nil]; omega
            cases hjm : (Tr.join x yy).may with
            | false =>
              push_cast -implicitDefEqProofs [eq_self, iff_self]
              refine ⟨_, hlt3, seen2 ++ [j2], L2, ⟨?_, ?_, ?_⟩, hs7.plus _, hL7' _, hgL2, ⟨hit7' _, hmC7' _⟩, hnd2', hsn2', hstep L2 (fun t => ⟨.inl, fun h => h.resolve_right (by rintro ⟨rfl, h⟩; rw [hjm] at h; cases h)⟩), rfl⟩
              · rw [topT_eq]
                push_cast -implicitDefEqProofs [eq_self, iff_self, z51, z50, z49, z7, z42, z6, z5, z2, z1, z10, z9, z95]
              · push_cast -implicitDefEqProofs [eq_self, iff_self, y12]
              · push_cast -implicitDefEqProofs [eq_self, iff_self, y108]
            | true =>
              have hs27 : SameE [kB, it] D2 D7 := by rw [hD7]; exact hs26.set hit6D (.inr (by have := hs4.2.1; omega))
              have hSlB7 : D7.obj (D.nxt + 0) = _ := (hs27.2.2 _ (hSl2.lt hlw2).1 (fun h => by
                simp only [List.mem_cons, List.not_mem_nil, or_false] at h
                rcases h with h | h
                · exact hSl2.ne hrl hkB h.symm
                · exact hitB h.symm)).trans hSl2.row
              have hrow7 := fun l => (plus_low D7 l (hlw7 _ _ hSlB7)).trans hSlB7
              have hrg2 : ((List.range m.P.length).map fun g => [slotV (kb2 g)]).getD at0 [] = [.mp kB] := (range_get hrl (fun g => [slotV (kb2 g)])).trans (by rw [hkB]; rfl)
              have hput := kvM_put hgL2 hjm
              have hfa := kvM_at (txt 4 (Tr.join x yy)) L2
              have hkB7 : kB < D7.nxt := hlw7 _ _ hL7
              have hset7 := fun l o => plus_setlow D7 l hkB7 o
              push_cast -implicitDefEqProofs [eq_self, iff_self]
              refine areg_at 7 (by kernel_rfl) (by kernel_rfl) ?_
              push_cast -implicitDefEqProofs [eq_self, iff_self, z7, z10, hrow7, hat0, hat1, hrg2, List.length_range, hL7']
              refine ⟨hrl, ?_⟩
              refine ahdq (TextT_ok _ (may_ok hjm) hjm) ?_
              push_cast -implicitDefEqProofs [eq_self, iff_self, z7, z10, hrow7, hat0, hat1, hrg2, List.length_range, hL7', hput, hfa, hset7]
              have hs7' := hs7.set hkB7 (o := .amap ((addM L2 (Tr.join x yy)).map kvM)) (.inl (by simp))
              refine ⟨_, hlt3, seen2 ++ [j2], addM L2 (Tr.join x yy), ⟨?_, ?_, ?_⟩, hs7'.plus _, ?_, hgL2.add hjm, ⟨?_, ?_⟩, hnd2', hsn2', hstep _ (fun t => by rw [mem_addM]; exact ⟨fun h => h.imp id fun h => ⟨h, h ▸ hjm⟩, fun h => h.imp id fun h => h.1⟩), rfl⟩
              · rw [topT_eq]
                push_cast -implicitDefEqProofs [eq_self, iff_self, z51, z50, z49, z7, z42, z6, z5, z2, z1, z10, z9, z95]
              · push_cast -implicitDefEqProofs [eq_self, iff_self, y12]
              · push_cast -implicitDefEqProofs [eq_self, iff_self, y108]
              · exact (plus_low (D7.set kB _) _ hkB7).trans (set_at _ _ _)
              · exact (plus_low (D7.set kB _) _ (hlw7 _ _ hit7)).trans ((set_off _ _ (Ne.symm hkBit2)).trans hit7)
              · refine (plus_low (D7.set kB _) _ (hlw7 _ _ hmC7)).trans ((set_off _ _ ?_).trans hmC7)
                have := (hSl.lt hlw).2 _ _ hrb hkb3
                omega
end
section
def mkB (m : Mm) : Nat → Nat → Tr → Bool
  | 0, _, _ => false
  | d + 1, g, t => (List.range m.N.length).any fun i => decide (rgM m i = g) &&
    (if (m.N.getD i nd0).jn then (match t with | .mk o [x, y] => decide (o = 0) && mkB m d (raM m i) x && mkB m d (rbM m i) y && t.may | _ => false)
     else (match t with | .mk o [] => decide (o = (m.N.getD i nd0).occ) | _ => false))
theorem mkB_iff (m : Mm) : ∀ d g t, mkB m d g t = true ↔ mkT m d g t
  | 0, g, t => by simp [mkB, mkT]
  | d + 1, g, t => by
    have ih := mkB_iff m d
    unfold mkB mkT
    rw [List.any_eq_true]
    refine exists_congr fun i => ?_
    rw [List.mem_range, Bool.and_eq_true, decide_eq_true_eq]
    refine and_congr_right fun _ => and_congr_right fun _ => ?_
    unfold stepM
    split
    · constructor
      · intro h
        split at h
        · rename_i o x y
          simp only [Bool.and_eq_true, decide_eq_true_eq] at h
          obtain ⟨⟨⟨rfl, h1⟩, h2⟩, h3⟩ := h
          exact ⟨x, y, (ih _ _).1 h1, (ih _ _).1 h2, rfl, h3⟩
        · cases h
      · rintro ⟨x, y, h1, h2, rfl, h3⟩
        show (decide ((0 : Int) = 0) && mkB m d (raM m i) x && mkB m d (rbM m i) y && (Tr.join x y).may) = true
        simp only [Bool.and_eq_true, decide_eq_true_eq]
        exact ⟨⟨⟨trivial, (ih _ _).2 h1⟩, (ih _ _).2 h2⟩, h3⟩
    · constructor
      · intro h
        split at h
        · rename_i o
          rw [decide_eq_true_eq] at h
          rw [h]; rfl
        · cases h
      · rintro rfl
        show decide (_ = _) = true
        simp
theorem mkT_may {m : Mm} (hf : m.form = true) : ∀ {d g : Nat} {t : Tr}, mkT m d g t → t.may = true
  | 0, _, _, h => h.elim
  | d + 1, g, t, ⟨i, hi, _, h⟩ => by
    unfold stepM at h
    split at h
    · obtain ⟨x, y, _, _, rfl, h⟩ := h; exact h
    · rename_i hj
      have hnl := node_leaf (form_N hf hi) (by simpa using hj)
      rw [h, Tr.may, Tr.leaf, setT_nil]
      rw [decide_eq_true hnl.2.2.1, decide_eq_true hnl.2.2.2]; rfl
theorem treesM_B {m : Mm} {g : Nat} (hm : m.may = true ∧ g < m.P.length) : treesM m g = sortM (allTs.filter (mkB m 4 (rootN m.P g))) := by
  refine treesM_eq hm ⟨allTs_nodup.filter _, fun t ht => allTs_may (List.mem_filter.1 ht).1⟩ fun t => ?_
  rw [List.mem_filter, mkB_iff]
  exact ⟨fun h => h.2, fun h => ⟨mem_allTs (mkT_may (may_f hm.1) h), h⟩⟩
theorem treesM_len {m : Mm} {g : Nat} (h : m.may = true ∧ g < m.P.length) : (treesM m g).length = (allTs.filter (mkB m 4 (rootN m.P g))).length := by
  rw [treesM_B h]; exact List.length_mergeSort _
def x3 : Mm := ⟨[⟨false, 0, 0, 0⟩, ⟨false, 1, 0, 0⟩, ⟨false, 2, 0, 0⟩, ndJ 0 1, ndJ 3 2, ndJ 1 0, ndJ 2 3, ndJ 1 2, ndJ 0 5, ndJ 0 2, ndJ 1 6, ndJ 2 1, ndJ 5 0, ndJ 2 0, ndJ 6 1], [0, 1, 2, 3, 4, 3, 4, 5, 4, 6, 4, 5, 4, 6, 4], [0, 1, 2, 3, 4, 5, 6]⟩
theorem run3 : (start 3).1.run [] = (x3, 18, 0) := by kernel_rfl
theorem start3 : start 3 = (stM 3 2, 4, true) := by kernel_rfl
theorem awake1 : (treesM (stM 3 2) (4 : Nat)).length = 1 := by rw [treesM_len (by decide +kernel)]; decide +kernel
theorem awake2 : (treesM x3 (4 : Nat)).length = 12 := by rw [treesM_len (by decide +kernel)]; decide +kernel
theorem awake3 : (x3.of 4).length = 6 := by decide +kernel
end
section
attribute [local push_cast] encIs_pure encNs_pure encT_pure encTs_pure encT_len encT_one encT_take encN_eq encM_eq plus_obj0 plus_set0 piL_is00 piL_is0 piL_isk encIs_one encNs_four
def farM (m : Mm) (most : Int) : Bool := decide ((m.N.length : Int) ≤ most) && decide ((m.G.length : Int) ≤ most) && decide ((m.P.length : Int) ≤ most)
theorem few_ok (m : Mm) (most : Int) : Quiet Go.Proofs.Try.prog 40 [encM m, .int most] (.bool (farM m most)) := by
  refine quiet_of (rs := #[.tmp 4]) Go.Proofs.Try.func40 rfl rfl rfl mixed rfl rfl fun H hs => ?_
  cases h1 : decide ((m.N.length : Int) ≤ most) <;> cases h2 : decide ((m.G.length : Int) ≤ most) <;> cases h3 : decide ((m.P.length : Int) ≤ most)
  all_goals
    push_cast -implicitDefEqProofs [eq_self, iff_self, farM, h1, h2, h3]
    try repeat (refine gskip ?_; push_cast -implicitDefEqProofs [eq_self, iff_self, h1, h2, h3])
theorem Far_ok (m : Mm) (most : Int) : Quiet Go.Proofs.Try.prog 13 [encM m, .int most] (.int (if farM m most then 0 else 1)) := by
  refine quiet_of (rs := #[.tmp 4]) Go.Proofs.Try.func13 rfl rfl rfl mixed rfl rfl fun H hs => ?_
  push_cast -implicitDefEqProofs [eq_self, iff_self]
  refine callq (few_ok m most) ?_
  cases h : farM m most <;> push_cast -implicitDefEqProofs [eq_self, iff_self]
theorem Awake_ok : Quiet Go.Proofs.Try.prog 12 [] (.bool true) := by
  refine quiet_of (rs := #[.tmp 0]) Go.Proofs.Try.func12 rfl rfl rfl mixed rfl rfl fun H hs => ?_
  have hst := Start_ok 3
  rw [start3] at hst
  have hsm : (stM 3 2).Small := by have := stM_small 3 2 (by omega) (by omega); exact ⟨this.1, this.2.1, this.2.2⟩
  have hrun := Run_ok (stM 3 2) hsm [] (by simp)
  rw [show (stM 3 2).run [] = (x3, 18, 0) from run3] at hrun
  have hx3 : x3.Small := ⟨by simp [x3], by simp [x3], by simp [x3]⟩
  have h1 := Trees_ok (stM 3 2) hsm (4 : Nat)
  have h2 := Trees_ok x3 hx3 (4 : Nat)
  have h3 := Of_ok x3 hx3 (4 : Nat)
  have a1 := awake1
  have a2 := awake2
  have a3 := awake3
  have hN : (stM 3 2).N.length = 5 := rfl
  generalize treesM (stM 3 2) (4 : Nat) = l1 at h1 a1
  generalize treesM x3 (4 : Nat) = l2 at h2 a2
  generalize x3.of (4 : Nat) = l3 at h3 a3
  generalize stM 3 2 = m3 at hst hrun hN h1
  generalize x3 = m4 at hrun h2 h3
  push_cast -implicitDefEqProofs [eq_self, iff_self]
  refine callq hst ?_
  push_cast -implicitDefEqProofs [eq_self, iff_self]
  refine calla [encM m3, .sl []] hrun ?_ ?_
  · push_cast -implicitDefEqProofs [eq_self, iff_self]
  push_cast -implicitDefEqProofs [eq_self, iff_self, hN]
  refine gcallq' (.sl (l1.map encT)) (fun _ => trivial) (fun _ => h1) ?_
  push_cast -implicitDefEqProofs [eq_self, iff_self, a1]
  refine gcallq' (.sl (l2.map encT)) (fun _ => trivial) (fun _ => h2) ?_
  push_cast -implicitDefEqProofs [eq_self, iff_self, a2]
  refine gcallq' (.sl (l3.map encI)) (fun _ => trivial) (fun _ => h3) ?_
  push_cast -implicitDefEqProofs [eq_self, iff_self, a3]
end
section
def ro (m : Mm) (g : Nat) : Nat := rootN m.P g
def gi (m : Mm) (i : Nat) : Nat := (m.G.getD i 0).toNat
abbrev nd (m : Mm) (i : Nat) : Nd := m.N.getD i nd0
def sameC (m : Mm) (x y : Nd) : Prop := x.jn = y.jn ∧ (x.jn = false → x.occ = y.occ) ∧ (x.jn = true → ro m x.a.toNat = ro m y.a.toNat ∧ ro m x.b.toNat = ro m y.b.toNat)
theorem sameC.refl (m : Mm) (x : Nd) : sameC m x x := ⟨rfl, fun _ => rfl, fun _ => ⟨rfl, rfl⟩⟩
theorem sameC.symm {m : Mm} {x y : Nd} (h : sameC m x y) : sameC m y x := ⟨h.1.symm, fun hj => (h.2.1 (h.1.trans hj)).symm, fun hj => ⟨(h.2.2 (h.1.trans hj)).1.symm, (h.2.2 (h.1.trans hj)).2.symm⟩⟩
theorem sameC.trans {m : Mm} {x y z : Nd} (h : sameC m x y) (k : sameC m y z) : sameC m x z :=
  ⟨h.1.trans k.1, fun hj => (h.2.1 hj).trans (k.2.1 (h.1.symm.trans hj)), fun hj => ⟨(h.2.2 hj).1.trans (k.2.2 (h.1.symm.trans hj)).1, (h.2.2 hj).2.trans (k.2.2 (h.1.symm.trans hj)).2⟩⟩
theorem Nd.ext' {x y : Nd} (h1 : x.jn = y.jn) (h2 : x.occ = y.occ) (h3 : x.a = y.a) (h4 : x.b = y.b) : x = y := by
  obtain ⟨a, b, c, d⟩ := x
  obtain ⟨e, f, g, h⟩ := y
  simp only at h1 h2 h3 h4
  subst h1 h2 h3 h4
  rfl
theorem canon_jn (m : Mm) (x : Nd) : (canonR (rootsS m.P) x).jn = x.jn := by rw [canonR]; split <;> rfl
theorem canon_leaf {m : Mm} {x : Nd} (h : x.jn = false) : canonR (rootsS m.P) x = x := by rw [canonR, if_neg (by rw [h]; decide)]
theorem canon_join {m : Mm} (hf : m.form = true) {x : Nd} (hx : m.node x = true) (h : x.jn = true) : canonR (rootsS m.P) x = ⟨true, 0, (ro m x.a.toNat : Int), (ro m x.b.toNat : Int)⟩ := by
  obtain ⟨h1, ⟨h2, h3⟩, h4, h5⟩ := node_join hx h
  rw [canonR, if_pos h, rootsS_at (form_P hf) (by omega), rootsS_at (form_P hf) (by omega), h1, h]
  rfl
theorem canon_eq {m : Mm} (hf : m.form = true) {x y : Nd} (hx : m.node x = true) (hy : m.node y = true) : canonR (rootsS m.P) x = canonR (rootsS m.P) y ↔ sameC m x y := by
  constructor
  · intro h
    have hj : x.jn = y.jn := by rw [← canon_jn m x, ← canon_jn m y, h]
    refine ⟨hj, fun hx0 => ?_, fun hx1 => ?_⟩
    · rw [canon_leaf hx0, canon_leaf (hj.symm.trans hx0)] at h
      rw [h]
    · rw [canon_join hf hx hx1, canon_join hf hy (hj.symm.trans hx1)] at h
      injection h with _ _ h1 h2
      exact ⟨by exact_mod_cast h1, by exact_mod_cast h2⟩
  · rintro ⟨hj, h0, h1⟩
    cases hx1 : x.jn with
    | true =>
      rw [canon_join hf hx hx1, canon_join hf hy (hj.symm.trans hx1), (h1 hx1).1, (h1 hx1).2]
    | false =>
      rw [canon_leaf hx1, canon_leaf (hj.symm.trans hx1)]
      obtain ⟨a1, a2, _⟩ := node_leaf hx hx1
      obtain ⟨b1, b2, _⟩ := node_leaf hy (hj.symm.trans hx1)
      exact Nd.ext' hj (h0 hx1) (a1.trans b1.symm) (a2.trans b2.symm)
def Closed (m : Mm) : Prop := ∀ i k, i < m.N.length → k < m.N.length → sameC m (nd m i) (nd m k) → ro m (gi m i) = ro m (gi m k)
theorem rg_ro {m : Mm} (hf : m.form = true) {i : Nat} (hi : i < m.N.length) : m.rg i = (ro m (gi m i) : Nat) := rg_at hf hi
theorem at1_at {m : Mm} {i : Nat} (hi : i < m.N.length) : m.cs.getD (m.at1 i) nd0 = m.cs.getD i nd0 := by
  have h1 := at1_le hi
  exact idxN_at (by have := cs_length m; have h2 : idxN (m.cs.getD i nd0) m.cs ≤ i := h1; omega)
theorem at1_same {m : Mm} (hf : m.form = true) {i : Nat} (hi : i < m.N.length) : m.at1 i < m.N.length ∧ sameC m (nd m (m.at1 i)) (nd m i) := by
  have h1 := at1_le hi
  have h2 : m.at1 i < m.N.length := by omega
  refine ⟨h2, (canon_eq hf (form_N hf h2) (form_N hf hi)).1 ?_⟩
  rw [← cs_at h2, ← cs_at hi]
  exact at1_at hi
def HasN (m : Mm) (n : Nd) (r : Nat) : Prop := ∃ i, i < m.N.length ∧ sameC m (nd m i) n ∧ ro m (gi m i) = r
theorem HasN.only {m : Mm} (hc : Closed m) {n : Nd} {r s : Nat} (h : HasN m n r) (k : HasN m n s) : r = s := by
  obtain ⟨i, hi, h1, rfl⟩ := h
  obtain ⟨j, hj, k1, rfl⟩ := k
  exact hc i j hi hj (h1.trans k1.symm)
theorem HasN.congr {m : Mm} {n n' : Nd} {r : Nat} (h : HasN m n r) (hs : sameC m n n') : HasN m n' r := by
  obtain ⟨i, hi, h1, h2⟩ := h
  exact ⟨i, hi, h1.trans hs, h2⟩
structure ExtM (m x : Mm) : Prop where
  nlen : m.N.length ≤ x.N.length
  plen : m.P.length ≤ x.P.length
  node : ∀ i, i < m.N.length → nd x i = nd m i
  grp : ∀ i, i < m.N.length → gi x i = gi m i
  root : ∀ g, g < m.P.length → ro x (ro m g) = ro x g
theorem ro_lt {m : Mm} (hf : m.form = true) {g : Nat} (h : g < m.P.length) : ro m g < m.P.length := Nat.lt_of_le_of_lt (rootN_le (form_P hf) h) h
theorem ro_idem {m : Mm} (hf : m.form = true) {g : Nat} (h : g < m.P.length) : ro m (ro m g) = ro m g := rootN_idem (form_P hf) h
theorem gi_lt {m : Mm} (hf : m.form = true) {i : Nat} (hi : i < m.N.length) : gi m i < m.P.length := by have := form_G hf hi; unfold gi; omega
theorem ExtM.refl {m : Mm} (hf : m.form = true) : ExtM m m := ⟨Nat.le_refl _, Nat.le_refl _, fun _ _ => rfl, fun _ _ => rfl, fun g hg => ro_idem hf hg⟩
theorem ExtM.eqv {m x : Mm} (h : ExtM m x) {g g' : Nat} (hg : g < m.P.length) (hg' : g' < m.P.length) (he : ro m g = ro m g') : ro x g = ro x g' := by
  rw [← h.root g hg, he, h.root g' hg']
theorem ExtM.trans {m x y : Mm} (hf : m.form = true) (h : ExtM m x) (k : ExtM x y) : ExtM m y where
  nlen := Nat.le_trans h.nlen k.nlen
  plen := Nat.le_trans h.plen k.plen
  node := fun i hi => (k.node i (Nat.lt_of_lt_of_le hi h.nlen)).trans (h.node i hi)
  grp := fun i hi => (k.grp i (Nat.lt_of_lt_of_le hi h.nlen)).trans (h.grp i hi)
  root := fun g hg => k.eqv (Nat.lt_of_lt_of_le (ro_lt hf hg) h.plen) (Nat.lt_of_lt_of_le hg h.plen) (h.root g hg)
theorem jn_lt {m : Mm} (hf : m.form = true) {i : Nat} (hi : i < m.N.length) (hj : (nd m i).jn = true) : (nd m i).a.toNat < m.P.length ∧ (nd m i).b.toNat < m.P.length := by
  obtain ⟨_, h1, h2⟩ := node_join (form_N hf hi) hj
  show (m.N.getD i nd0).a.toNat < m.P.length ∧ (m.N.getD i nd0).b.toNat < m.P.length
  omega
theorem ExtM.made {m x : Mm} (hf : m.form = true) (h : ExtM m x) : ∀ {d g : Nat} {t : Tr}, g < m.P.length → mkT m d (ro m g) t → mkT x d (ro x g) t
  | 0, _, _, _, hk => hk.elim
  | d + 1, g, t, hg, ⟨i, hi, h1, h2⟩ => by
    refine ⟨i, Nat.lt_of_lt_of_le hi h.nlen, ?_, ?_⟩
    · show ro x (gi x i) = ro x g
      rw [h.grp i hi]
      exact h.eqv (gi_lt hf hi) hg h1
    · unfold stepM at h2 ⊢
      have hn : x.N.getD i nd0 = m.N.getD i nd0 := h.node i hi
      rw [hn]
      split
      · rename_i hj
        rw [if_pos hj] at h2
        obtain ⟨u, v, hu, hv, rfl, hm⟩ := h2
        obtain ⟨ha, hb⟩ := jn_lt hf hi hj
        refine ⟨u, v, ?_, ?_, rfl, hm⟩
        · have := h.made hf ha hu
          show mkT x d (ro x (x.N.getD i nd0).a.toNat) u
          rw [hn]; exact this
        · have := h.made hf hb hv
          show mkT x d (ro x (x.N.getD i nd0).b.toNat) v
          rw [hn]; exact this
      · rename_i hj
        rw [if_neg hj] at h2; exact h2
theorem ExtM.has {m x : Mm} (hf : m.form = true) (h : ExtM m x) {n : Nd} (hn : m.node n = true) {g : Nat} (hg : g < m.P.length) (hh : HasN m n (ro m g)) : HasN x n (ro x g) := by
  obtain ⟨i, hi, ⟨h1, h2, h3⟩, h4⟩ := hh
  refine ⟨i, Nat.lt_of_lt_of_le hi h.nlen, ?_, ?_⟩
  · rw [h.node i hi]
    refine ⟨h1, h2, fun hj => ?_⟩
    obtain ⟨a1, b1⟩ := jn_lt hf hi hj
    obtain ⟨_, a2, b2⟩ := node_join hn (h1.symm.trans hj)
    exact ⟨h.eqv a1 (by omega) (h3 hj).1, h.eqv b1 (by omega) (h3 hj).2⟩
  · rw [h.grp i hi]
    exact h.eqv (gi_lt hf hi) hg h4
end
section
def mapN (φ : Nat → Nat) (n : Nd) : Nd := ⟨n.jn, n.occ, (φ n.a.toNat : Nat), (φ n.b.toNat : Nat)⟩
structure HomM (m w : Mm) (φ : Nat → Nat) : Prop where
  lt : ∀ g, g < m.P.length → φ g < w.P.length
  root : ∀ g g', g < m.P.length → g' < m.P.length → ro m g = ro m g' → ro w (φ g) = ro w (φ g')
  has : ∀ i, i < m.N.length → HasN w (mapN φ (nd m i)) (ro w (φ (gi m i)))
theorem ExtM.hom {m x : Mm} (hf : m.form = true) (h : ExtM m x) : HomM m x (fun g => g) where
  lt := fun g hg => Nat.lt_of_lt_of_le hg h.plen
  root := fun g g' hg hg' he => h.eqv hg hg' he
  has := fun i hi => by
    refine ⟨i, Nat.lt_of_lt_of_le hi h.nlen, ?_, by rw [h.grp i hi]⟩
    rw [h.node i hi]
    exact ⟨rfl, fun _ => rfl, fun _ => ⟨rfl, rfl⟩⟩
theorem HomM.made {m w : Mm} {φ : Nat → Nat} (hf : m.form = true) (h : HomM m w φ) : ∀ {d g : Nat} {t : Tr}, g < m.P.length → mkT m d (ro m g) t → mkT w d (ro w (φ g)) t
  | 0, _, _, _, hk => hk.elim
  | d + 1, g, t, hg, ⟨i, hi, h1, h2⟩ => by
    obtain ⟨k, hk, ⟨s1, s2, s3⟩, h4⟩ := h.has i hi
    refine ⟨k, hk, ?_, ?_⟩
    · exact h4.trans (h.root _ _ (gi_lt hf hi) hg h1)
    · unfold stepM at h2 ⊢
      have s1' : (w.N.getD k nd0).jn = (m.N.getD i nd0).jn := s1
      rw [s1']
      split
      · rename_i hj
        rw [if_pos hj] at h2
        obtain ⟨u, v, hu, hv, rfl, hm⟩ := h2
        obtain ⟨ha, hb⟩ := jn_lt hf hi hj
        obtain ⟨e1, e2⟩ := s3 (s1.trans hj)
        refine ⟨u, v, ?_, ?_, rfl, hm⟩
        · have := h.made hf ha hu
          have e : raM w k = ro w (φ (nd m i).a.toNat) := e1
          rw [e]; exact this
        · have := h.made hf hb hv
          have e : rbM w k = ro w (φ (nd m i).b.toNat) := e2
          rw [e]; exact this
      · rename_i hj
        rw [if_neg hj] at h2
        have : (w.N.getD k nd0).occ = (m.N.getD i nd0).occ := s2 (by rw [s1]; exact Bool.eq_false_iff.2 hj)
        rw [h2, this]
theorem openM_at {m : Mm} (hf : m.form = true) {x : Int × Int} (h : m.openM = some x) : ∃ i k, i < m.N.length ∧ k < m.N.length ∧ sameC m (nd m i) (nd m k) ∧ x = (((gi m i : Nat) : Int), ((gi m k : Nat) : Int)) ∧ ro m (gi m i) ≠ ro m (gi m k) := by
  obtain ⟨i, hi, hb, _, rfl⟩ := openM_spec h
  obtain ⟨h1, h2⟩ := at1_same hf hi
  refine ⟨m.at1 i, i, h1, hi, h2, ?_, ?_⟩
  · have a1 := form_G hf hi
    have a2 := form_G hf h1
    unfold gi
    rw [Int.toNat_of_nonneg a1.1, Int.toNat_of_nonneg a2.1]
  · intro e
    rw [bad_cut, rg_ro hf h1, rg_ro hf hi, e] at hb
    simp at hb
theorem HomM.at_ {m w : Mm} {φ : Nat → Nat} (hf : m.form = true) (h : HomM m w φ) {n : Nd} (hn : m.node n = true) {r : Nat} (hh : HasN m n r) (hr : r < m.P.length) (hrr : ro m r = r) : HasN w (mapN φ n) (ro w (φ r)) := by
  obtain ⟨i, hi, hs, hri⟩ := hh
  have h1 : HasN w (mapN φ n) (ro w (φ (gi m i))) := (h.has i hi).congr ⟨hs.1, hs.2.1, fun hj => by
    obtain ⟨a1, b1⟩ := jn_lt hf hi hj
    obtain ⟨_, a2, b2⟩ := node_join hn (hs.1.symm.trans hj)
    obtain ⟨e1, e2⟩ := hs.2.2 hj
    exact ⟨h.root _ _ a1 (by omega) e1, h.root _ _ b1 (by omega) e2⟩⟩
  rw [h.root _ _ hr (gi_lt hf hi) (by rw [hri, hrr])]
  exact h1
end
section
def turnN (m : Mm) (e : Nat) : Nd := ndJ (nd m e).b (nd m e).a
def moveN (m : Mm) (e f : Nat) : Nd := ndJ (nd m f).b (nd m e).b
def SatT (m w : Mm) (φ : Nat → Nat) (e : Nat) : Prop := HasN w (mapN φ (turnN m e)) (ro w (φ (gi m e)))
def SatM (m w : Mm) (φ : Nat → Nat) (e f : Nat) : Prop := ∃ r, r < w.P.length ∧ HasN w (mapN φ (moveN m e f)) (ro w r) ∧ HasN w (ndJ (φ (nd m f).a.toNat : Nat) (r : Nat)) (ro w (φ (gi m e)))
def Sat (m w : Mm) (φ : Nat → Nat) (j : Jb) : Prop := if j.mv then SatM m w φ j.e.toNat j.f.toNat else SatT m w φ j.e.toNat
theorem nodeJ {m : Mm} {a b : Int} (ha : 0 ≤ a ∧ a < m.P.length) (hb : 0 ≤ b ∧ b < m.P.length) : m.node (ndJ a b) = true := by
  show (if true = true then _ else _) = true
  rw [if_pos rfl]
  simp only [Bool.and_eq_true, decide_eq_true_eq, inG_cut, ndJ]
  exact ⟨⟨trivial, ha⟩, hb⟩
end
section
theorem job_at {m : Mm} {j : Jb} (hj : j ∈ m.jobs0) : j.e.toNat < m.N.length ∧ (nd m j.e.toNat).jn = true ∧ (j.mv = true → j.f.toNat < m.N.length ∧ (nd m j.f.toNat).jn = true) := by
  obtain ⟨e, he, hjn, h⟩ := mem_jobs0.1 hj
  rcases h with rfl | ⟨f, hfl, hfj, _, rfl⟩
  · exact ⟨he, hjn, fun h => by cases h⟩
  · exact ⟨he, hjn, fun _ => ⟨hfl, hfj⟩⟩
theorem turnN_ok {m : Mm} (hf : m.form = true) {e : Nat} (he : e < m.N.length) (hj : (nd m e).jn = true) : m.node (turnN m e) = true := by
  obtain ⟨_, ha, hb⟩ := node_join (form_N hf he) hj
  exact nodeJ hb ha
theorem moveN_ok {m : Mm} (hf : m.form = true) {e f : Nat} (he : e < m.N.length) (hj : (nd m e).jn = true) (hfl : f < m.N.length) (hfj : (nd m f).jn = true) : m.node (moveN m e f) = true := by
  obtain ⟨_, ha, hb⟩ := node_join (form_N hf he) hj
  obtain ⟨_, fa, fb⟩ := node_join (form_N hf hfl) hfj
  exact nodeJ fb hb
theorem map_id {m w : Mm} {φ : Nat → Nat} (hφ : ∀ h, h < m.P.length → φ h = h) {n : Nd} (hn : m.node n = true) : sameC w (mapN φ n) n := by
  refine ⟨rfl, fun _ => rfl, fun hj => ?_⟩
  obtain ⟨_, a, b⟩ := node_join hn hj
  have e1 := hφ n.a.toNat (by omega)
  have e2 := hφ n.b.toNat (by omega)
  simp only [mapN, e1, e2, Int.toNat_natCast, and_self]
theorem Sat.ext {m b y : Mm} (hf : m.form = true) (hbf : b.form = true) (hmb : ExtM m b) (h : ExtM b y) {j : Jb} (hj : j ∈ m.jobs0) (hs : Sat m b (fun g => g) j) : Sat m y (fun g => g) j := by
  obtain ⟨he, hjn, hmv⟩ := job_at hj
  have hge := Nat.lt_of_lt_of_le (gi_lt hf he) hmb.plen
  have up : ∀ n, m.node n = true → b.node n = true := fun n hn => node_more hmb.plen hn
  unfold Sat at hs ⊢
  split
  · rename_i hm
    obtain ⟨hfl, hfj⟩ := hmv hm
    rw [if_pos hm] at hs
    obtain ⟨r, hr, s1, s2⟩ := hs
    have hn := moveN_ok hf he hjn hfl hfj
    refine ⟨r, Nat.lt_of_lt_of_le hr h.plen, ?_, ?_⟩
    · exact (h.has hbf (up _ hn) hr (s1.congr (map_id (fun _ _ => rfl) hn))).congr (map_id (m := m) (fun _ _ => rfl) hn).symm
    · obtain ⟨a1, b1⟩ := jn_lt hf hfl hfj
      exact h.has hbf (nodeJ ⟨Int.natCast_nonneg _, by have := hmb.plen; show (((nd m j.f.toNat).a.toNat : Nat) : Int) < _; omega⟩ ⟨by omega, by omega⟩) hge s2
  · rename_i hm
    rw [if_neg hm] at hs
    have hn := turnN_ok hf he hjn
    exact (h.has hbf (up _ hn) hge (HasN.congr hs (map_id (fun _ _ => rfl) hn))).congr (map_id (m := m) (fun _ _ => rfl) hn).symm
open Classical in
open Classical in
end
section
def In64 (n : Int) : Prop := -9223372036854775808 ≤ n ∧ n ≤ 9223372036854775807
theorem asV_I (vs : List AV) : asV Go.Proofs.Try.prog 3 vs = vs.headD .any := by simp only [asV, Go.Proofs.Try.underlying3]
theorem told_I {ts : List TypeId} {us : List AV} (h : ToldAll Go.Proofs.Try.prog (3 :: ts) us) : ∃ (n : Int) (us' : List AV), us = .int n :: us' ∧ In64 n ∧ ToldAll Go.Proofs.Try.prog ts us' := by
  simp only [ToldAll] at h
  obtain ⟨n, vs, us1, rfl, h1, h3⟩ := h
  obtain ⟨k, rfl, hk⟩ := shp_int Go.Proofs.Try.underlying3 h1
  exact ⟨k, us1, by rw [asV_I]; rfl, wf64 hk, h3⟩
theorem told_nil {us : List AV} (h : ToldAll Go.Proofs.Try.prog [] us) : us = [] := by simpa only [ToldAll] using h
end
section
attribute [local push_cast] encT_mk encT_take encT_len encT_one encTs_pure encT_pure
theorem bytesI : Program.bytesOf Go.Proofs.Try.prog 3 = 8 := by kernel_rfl
theorem shp_Is {n : Nat} {vs : List AV} (h : Shp Go.Proofs.Try.prog n 23 vs) : ∃ l : List Int, vs = [.sl (l.map encI)] ∧ l.length ≤ 140737488355328 := by
  obtain ⟨m, es, _, rfl, hl, hp⟩ := shp_slice Go.Proofs.Try.underlying23 h
  rw [bytesI] at hl
  obtain ⟨l, rfl, hq⟩ := map_of (f := encI) (q := fun x => In64 x) fun x hx => let ⟨v, hv, hw⟩ := shp_int Go.Proofs.Try.underlying3 (hp x hx).2; ⟨v, hv, wf64 hw⟩
  exact ⟨l, rfl, by simp [reachBytes] at hl; omega⟩
theorem shp_N {n : Nat} {vs : List AV} (h : Shp Go.Proofs.Try.prog n 55 vs) : ∃ d : Nd, vs = encN d ∧ True := by
  obtain ⟨m, parts, _, rfl, hl, hp⟩ := shp_struct Go.Proofs.Try.underlying55 h
  match parts, hl with
  | [p0, p1, p2, p3], _ =>
    obtain ⟨j, rfl⟩ := shp_bool Go.Proofs.Try.underlying4 (hp 0 _ p0 rfl rfl).2
    obtain ⟨o, rfl, _⟩ := shp_int Go.Proofs.Try.underlying3 (hp 1 _ p1 rfl rfl).2
    obtain ⟨a, rfl, _⟩ := shp_int Go.Proofs.Try.underlying3 (hp 2 _ p2 rfl rfl).2
    obtain ⟨b, rfl, _⟩ := shp_int Go.Proofs.Try.underlying3 (hp 3 _ p3 rfl rfl).2
    exact ⟨⟨j, o, a, b⟩, rfl, trivial⟩
theorem shp_Ns {n : Nat} {vs : List AV} (h : Shp Go.Proofs.Try.prog n 22 vs) : ∃ l : List Nd, vs = [.sl (l.map encN)] := by
  obtain ⟨m, es, _, rfl, hl, hp⟩ := shp_slice Go.Proofs.Try.underlying22 h
  obtain ⟨l, rfl, hq⟩ := map_of (f := encN) (q := fun _ => True) fun x hx => shp_N (hp x hx).2
  exact ⟨l, rfl⟩
theorem shp_M {n : Nat} {vs : List AV} (h : Shp Go.Proofs.Try.prog n 25 vs) : ∃ m : Mm, vs = [.sl (m.N.map encN), .sl (m.G.map encI), .sl (m.P.map encI)] := by
  obtain ⟨m, parts, _, rfl, hl, hp⟩ := shp_struct Go.Proofs.Try.underlying25 h
  match parts, hl with
  | [p0, p1, p2], _ =>
    obtain ⟨N, rfl⟩ := shp_Ns (hp 0 _ p0 rfl rfl).2
    obtain ⟨G, rfl, _⟩ := shp_Is (hp 1 _ p1 rfl rfl).2
    obtain ⟨Q, rfl, _⟩ := shp_Is (hp 2 _ p2 rfl rfl).2
    exact ⟨⟨N, G, Q⟩, rfl⟩
theorem asV_M (vs : List AV) : asV Go.Proofs.Try.prog 25 vs = .agg vs := by simp only [asV, Go.Proofs.Try.underlying25]
theorem told_M {ts : List TypeId} {us : List AV} (h : ToldAll Go.Proofs.Try.prog (25 :: ts) us) : ∃ (m : Mm) (us' : List AV), us = encM m :: us' ∧ ToldAll Go.Proofs.Try.prog ts us' := by
  simp only [ToldAll] at h
  obtain ⟨n, vs, us1, rfl, h1, h3⟩ := h
  obtain ⟨m, rfl⟩ := shp_M h1
  exact ⟨m, us1, by rw [asV_M]; rfl, h3⟩
theorem sameT_self (t : Tr) : sameT t t = true := by
  induction t using Tr.ind with
  | h o l ih =>
    rw [sameT, decide_eq_true rfl, Bool.true_and]
    exact sameTL_all rfl fun i h h' => ih _ (List.getElem_mem h)
end
section
attribute [local push_cast] encT_mk encT_take encT_len encT_one encTs_pure encT_pure
theorem JoinR_ok (x y : Tr) : Quiet Go.Proofs.Try.prog 81 [.agg (encT x), .agg (encT y)] (.agg (encT (.join x y))) := by
  refine quiet_of (rs := #[.cell 4 58]) Go.Proofs.Try.func81 rfl rfl rfl mixed rfl rfl fun H hs => ?_
  push_cast -implicitDefEqProofs [eq_self, iff_self, Tr.join]
theorem lvsT_len : ∀ (d : Nat) (t : Tr), d ≤ 4 → (lvsT d t).1.length ≤ 2 ^ d
  | 0, _, _ => by simp [lvsT]
  | d + 1, .mk o [], _ => by rw [lvsT_nil]; simp; exact Nat.one_le_two_pow
  | d + 1, .mk o [a, b], h => by
    rw [lvsT_two]
    have ha := lvsT_len d a (by omega)
    have hb := lvsT_len d b (by omega)
    split
    · rw [List.length_append, Nat.pow_succ]; omega
    · simp
  | d + 1, .mk o [a], _ => by rw [lvsT_one]; simp
  | d + 1, .mk o (a :: b :: c :: l), _ => by rw [lvsT_more]; simp
theorem pow_16 {d : Nat} (h : d ≤ 4) : 2 ^ d ≤ 16 := by
  have hc : d = 0 ∨ d = 1 ∨ d = 2 ∨ d = 3 ∨ d = 4 := by omega
  rcases hc with rfl | rfl | rfl | rfl | rfl <;> decide
theorem isL1 (l : List Int) : ∀ e ∈ l.map encI, e.length = 1 := by
  simp only [List.mem_map]
  rintro _ ⟨x, _, rfl⟩
  rfl
theorem isA1 (l : List Int) : ∀ e ∈ l.map encI, e.all AV.one = true := by
  simp only [List.mem_map]
  rintro _ ⟨x, _, rfl⟩
  rfl
set_option maxHeartbeats 4000000 in
theorem leaves_ok : ∀ (d : Nat) (t : Tr), d ≤ 4 → t.Ok → Quiet Go.Proofs.Try.prog 113 [.agg (encT t), .int ((5 - d : Nat) : Int)] (.tup [.sl ((lvsT d t).1.map encI), .bool (lvsT d t).2])
  | 0, .mk o l, _, _ => by
    refine quiet_of (rs := #[.tmp 4, .tmp 5]) Go.Proofs.Try.func113 rfl rfl rfl mixed rfl rfl fun H hs => ?_
    simp -implicitDefEqProofs only [push_cast, Nat.reduceAdd, Nat.reduceSub, Nat.reduceMul, Nat.reduceLT, Nat.reduceLeDiff, Nat.reduceEqDiff, Nat.reduceBEq, reduceCtorEq, reduceIte, Int.reduceLE, Int.reduceLT, Int.reduceNeg, Int.reduceToNat, lvsT, List.map_nil, Int.reduceAdd]
  | d + 1, .mk o [], hd, ht => by
    have hd0 : (4 < ((5 - (d + 1) : Nat) : Int)) = False := by simp; omega
    refine quiet_of (rs := #[.tmp 4, .tmp 5]) Go.Proofs.Try.func113 rfl rfl rfl mixed rfl rfl fun H hs => ?_
    rw [lvsT_nil]
    simp -implicitDefEqProofs only [push_cast, Nat.reduceAdd, Nat.reduceSub, Nat.reduceMul, Nat.reduceLT, Nat.reduceLeDiff, Nat.reduceEqDiff, Nat.reduceBEq, reduceCtorEq, reduceIte, Int.reduceLE, Int.reduceLT, Int.reduceNeg, Int.reduceToNat, hd0, List.length_nil, List.map_nil, Int.reduceEq]
    refine areg_at 12 (by kernel_rfl) (by kernel_rfl) ?_
    simp -implicitDefEqProofs only [push_cast, Nat.reduceAdd, Nat.reduceSub, Nat.reduceMul, Nat.reduceLT, Nat.reduceLeDiff, Nat.reduceEqDiff, Nat.reduceBEq, reduceCtorEq, reduceIte, Int.reduceLE, Int.reduceLT, Int.reduceNeg, Int.reduceToNat]
    exact sealL_pure _ _ _ (by simp [PureL, Pure])
  | d + 1, .mk o [a], hd, ht => by
    have hd0 : (4 < ((5 - (d + 1) : Nat) : Int)) = False := by simp; omega
    refine quiet_of (rs := #[.tmp 4, .tmp 5]) Go.Proofs.Try.func113 rfl rfl rfl mixed rfl rfl fun H hs => ?_
    rw [lvsT_one]
    simp -implicitDefEqProofs only [push_cast, Nat.reduceAdd, Nat.reduceSub, Nat.reduceMul, Nat.reduceLT, Nat.reduceLeDiff, Nat.reduceEqDiff, Nat.reduceBEq, reduceCtorEq, reduceIte, Int.reduceLE, Int.reduceLT, Int.reduceNeg, Int.reduceToNat, hd0, List.length_cons, List.length_nil, List.map_nil, List.map_cons, Int.reduceEq, Int.reduceAdd]
  | d + 1, .mk o (a :: b :: c :: l), hd, ht => by
    have hd0 : (4 < ((5 - (d + 1) : Nat) : Int)) = False := by simp; omega
    have e0 : ((l.length : Int) + 1 + 1 + 1 = 0) = False := by simp; omega
    have e2 : ((l.length : Int) + 1 + 1 + 1 = 2) = False := by simp; omega
    refine quiet_of (rs := #[.tmp 4, .tmp 5]) Go.Proofs.Try.func113 rfl rfl rfl mixed rfl rfl fun H hs => ?_
    rw [lvsT_more]
    simp -implicitDefEqProofs only [push_cast, Nat.reduceAdd, Nat.reduceSub, Nat.reduceMul, Nat.reduceLT, Nat.reduceLeDiff, Nat.reduceEqDiff, Nat.reduceBEq, reduceCtorEq, reduceIte, Int.reduceLE, Int.reduceLT, Int.reduceNeg, Int.reduceToNat, hd0, List.length_cons, List.length_nil, List.map_nil, List.map_cons, e0, e2]
  | d + 1, .mk o [a, b], hd, ht => by
    have hd0 : (4 < ((5 - (d + 1) : Nat) : Int)) = False := by simp; omega
    obtain ⟨_, hlo⟩ := ht
    have ha := leaves_ok d a (by omega) (hlo _ (by simp))
    have hb := leaves_ok d b (by omega) (hlo _ (by simp))
    have la := lvsT_len d a (by omega)
    have lb := lvsT_len d b (by omega)
    have hp := pow_16 (d := d) (by omega)
    have hw : IntKind.wrap .i64 (((5 - (d + 1) : Nat) : Int) + 1) = ((5 - d : Nat) : Int) := by rw [wrap64 (by omega) (by omega)]; omega
    refine quiet_of (rs := #[.tmp 4, .tmp 5]) Go.Proofs.Try.func113 rfl rfl rfl mixed rfl rfl fun H hs => ?_
    rw [lvsT_two]
    by_cases ho : o = 0
    · have ho' : (o = 0) = True := by simp [ho]
      rw [if_pos ho]
      simp -implicitDefEqProofs only [push_cast, Nat.reduceAdd, Nat.reduceSub, Nat.reduceMul, Nat.reduceLT, Nat.reduceLeDiff, Nat.reduceEqDiff, Nat.reduceBEq, reduceCtorEq, reduceIte, Int.reduceLE, Int.reduceLT, Int.reduceNeg, Int.reduceToNat, hd0, hw, ho', List.length_cons, List.length_nil, List.map_nil, List.map_cons, Int.reduceEq, Int.reduceAdd]
      refine callq ha ?_
      simp -implicitDefEqProofs only [push_cast, Nat.reduceAdd, Nat.reduceSub, Nat.reduceMul, Nat.reduceLT, Nat.reduceLeDiff, Nat.reduceEqDiff, Nat.reduceBEq, reduceCtorEq, reduceIte, Int.reduceLE, Int.reduceLT, Int.reduceNeg, Int.reduceToNat, hd0, hw, List.length_cons, List.length_nil, Int.reduceEq, Int.reduceAdd]
      refine callq hb ?_
      simp -implicitDefEqProofs only [push_cast, Nat.reduceAdd, Nat.reduceSub, Nat.reduceMul, Nat.reduceLT, Nat.reduceLeDiff, Nat.reduceEqDiff, Nat.reduceBEq, reduceCtorEq, reduceIte, Int.reduceLE, Int.reduceLT, Int.reduceNeg, Int.reduceToNat]
      refine ⟨⟨isL1 _, by omega⟩, ⟨isL1 _, isA1 _, by omega⟩, by simp, ?_⟩
      rw [List.take_of_length_le (l := (lvsT d a).1.map encI) (by simp), List.take_of_length_le (by simp), ← List.map_append]
      exact sealLL_pure _ _ _ (encIs_pure _)
    · have ho' : (o = 0) = False := by simp [ho]
      rw [if_neg ho]
      simp -implicitDefEqProofs only [push_cast, Nat.reduceAdd, Nat.reduceSub, Nat.reduceMul, Nat.reduceLT, Nat.reduceLeDiff, Nat.reduceEqDiff, Nat.reduceBEq, reduceCtorEq, reduceIte, Int.reduceLE, Int.reduceLT, Int.reduceNeg, Int.reduceToNat, hd0, hw, ho', List.length_cons, List.length_nil, List.map_nil, List.map_cons, Int.reduceEq, Int.reduceAdd]
theorem nodup_upto {l : List Int} : (∀ (i k : Nat) (hi : i < l.length) (hk : k < i), l[k] ≠ l[i]) ↔ l.Nodup := by
  rw [List.nodup_iff_pairwise_ne, List.pairwise_iff_getElem]
  exact ⟨fun h i j hi hj hij => h j i hj hij, fun h i k hi hk => h k i (by omega) hi hk⟩
theorem may_lvs (t : Tr) : t.may = ((lvsT 4 t).2 && decide (lvsT 4 t).1.Nodup) := by
  have := (set_lvs 4 t).1
  unfold Tr.may
  rw [Bool.eq_iff_iff, this, Bool.and_eq_true, decide_eq_true_eq]
theorem MayTR_ok (t : Tr) (h : t.Ok) : Quiet Go.Proofs.Try.prog 82 [.agg (encT t)] (.bool t.may) := by
  have h4 := leaves_ok 4 t (by omega) h
  have hl16 := lvsT_len 4 t (by omega)
  rw [may_lvs]
  generalize lvsT 4 t = lt at h4 hl16
  obtain ⟨l, is⟩ := lt
  dsimp only at h4 hl16 ⊢
  refine quiet_of (rs := #[.tmp 2]) Go.Proofs.Try.func82 rfl rfl rfl mixed rfl rfl fun H hs => ?_
  push_cast -implicitDefEqProofs [eq_self, iff_self]
  refine callq h4 ?_
  push_cast -implicitDefEqProofs [eq_self, iff_self]
  refine loop_at hs (σ := Nat) (fun i => i ≤ l.length ∧ ∀ (a b : Nat) (ha : a < l.length) (hb : b < a), a < i → l[b] ≠ l[a]) (fun i => l.length - i)
    (fun i => [(5, .int i), (3, .sl (l.map encI)), (4, .bool is)]) (fun _ => []) [] 0 ⟨by omega, fun a b _ _ h => by omega⟩ rfl ?_ ?_ ?_
  · (try push_cast -implicitDefEqProofs [eq_self, iff_self, encIs_pure])
  · (try push_cast -implicitDefEqProofs [eq_self, iff_self])
  rintro i ⟨hi2, hi3⟩
  by_cases hi : i < l.length
  · have hi' : ((i : Int) < (l.length : Int)) = True := by simp; omega
    have hi0 : (0 ≤ (i : Int)) = True := by simp
    push_cast -implicitDefEqProofs [eq_self, iff_self, hi']
    refine loop_at hs (σ := Nat) (fun k => k ≤ i ∧ ∀ (b : Nat) (hb : b < i), b < k → l[b] ≠ l[i]) (fun k => i - k)
      (fun k => [(6, .int k), (5, .int i), (3, .sl (l.map encI)), (4, .bool is)]) (fun _ => []) [] 0 ⟨by omega, fun b _ h => by omega⟩ rfl ?_ ?_ ?_
    · (try push_cast -implicitDefEqProofs [eq_self, iff_self, encIs_pure])
    · (try push_cast -implicitDefEqProofs [eq_self, iff_self])
    rintro k ⟨hk2, hk3⟩
    by_cases hk : k < i
    · have hk' : ((k : Int) < (i : Int)) = True := by simp; omega
      have hk0 : (0 ≤ (k : Int)) = True := by simp
      have hkl : k < l.length := by omega
      have hkl' : ((k : Int) < (l.length : Int)) = True := by simp; omega
      push_cast -implicitDefEqProofs [eq_self, iff_self, hk']
      refine areg_at 9 (by kernel_rfl) (by kernel_rfl) ?_
      push_cast -implicitDefEqProofs [eq_self, iff_self, hk0, hi0, hkl', hi', encIs_get l k hkl, encIs_get l i hi, encI]
      refine ⟨fun he => ?_, fun he => ?_⟩
      · have hn : ¬ l.Nodup := fun hn => (nodup_upto.2 hn) i k hi hk he
        push_cast -implicitDefEqProofs [eq_self, iff_self, hn, decide_false, Bool.and_false]
      · rw [wrap64 (n := (k : Int) + 1) (by omega) (by omega)]
        refine next_at [] (k + 1) ⟨by omega, fun b hb hbk => ?_⟩ (by omega) rfl ?_ ?_
        · rcases Nat.lt_or_ge b k with h5 | h5
          · exact hk3 b hb h5
          · obtain rfl : b = k := by omega
            exact he
        · (try push_cast -implicitDefEqProofs [eq_self, iff_self, encIs_pure])
        · (try push_cast -implicitDefEqProofs [eq_self, iff_self])
    · have hk' : ((k : Int) < (i : Int)) = False := by simp; omega
      push_cast -implicitDefEqProofs [eq_self, iff_self, hk']
      rw [wrap64 (n := (i : Int) + 1) (by omega) (by omega)]
      refine next_at [] (i + 1) ⟨by omega, fun a b ha hb hai => ?_⟩ (by omega) rfl ?_ ?_
      · rcases Nat.lt_or_ge a i with h5 | h5
        · exact hi3 a b ha hb h5
        · obtain rfl : a = i := by omega
          exact hk3 b hb (by omega)
      · (try push_cast -implicitDefEqProofs [eq_self, iff_self, encIs_pure])
      · (try push_cast -implicitDefEqProofs [eq_self, iff_self])
  · have hi' : ((i : Int) < (l.length : Int)) = False := by simp; omega
    push_cast -implicitDefEqProofs [eq_self, iff_self, hi']
    have hn : l.Nodup := nodup_upto.1 fun a b ha hb => hi3 a b ha hb (by omega)
    simp [hn]
end
section
attribute [local push_cast] encT_mk encT_take encT_len encT_one encTs_pure encT_pure encJ_eq encJs_pure
theorem Lists_ok (l m : List Tr) (hl : l.length ≤ 1000) (hm : m.length ≤ 1000) (hlo : ∀ x ∈ l, x.Ok) (he : l = m) : Quiet Go.Proofs.Try.prog 14 [.sl (l.map encT), .sl (m.map encT)] (.bool true) := by
  subst he
  refine quiet_of (rs := #[.tmp 4]) Go.Proofs.Try.func14 rfl rfl rfl mixed rfl rfl fun H hs => ?_
  push_cast -implicitDefEqProofs [eq_self, iff_self]
  refine loop_at hs (σ := Nat) (fun i => i ≤ l.length) (fun i => l.length - i)
    (fun i => [(5, .int i), (0, .sl (l.map encT)), (1, .sl (l.map encT))]) (fun i => []) [] 0 (by omega) rfl ?_ ?_ ?_
  · (try push_cast -implicitDefEqProofs [eq_self, iff_self, encTs_pure])
  · (try push_cast -implicitDefEqProofs [eq_self, iff_self])
  intro i hi2
  by_cases hi : i < l.length
  · have hi' : ((i : Int) < (l.length : Int)) = True := by simp; omega
    have hi0 : (0 ≤ (i : Int)) = True := by simp
    have hget := encTs_get l i hi
    have hS := tree_sameR_ok l[i] l[i] (hlo _ (List.getElem_mem hi)) (hlo _ (List.getElem_mem hi))
    rw [sameT_self] at hS
    generalize l[i] = x at hget hS
    push_cast -implicitDefEqProofs [eq_self, iff_self, hi', hi0, hget]
    refine areg_at 9 (by kernel_rfl) (by kernel_rfl) ?_
    push_cast -implicitDefEqProofs [eq_self, iff_self, hi', hi0, hget]
    refine ahdq hS ?_
    push_cast -implicitDefEqProofs [eq_self, iff_self, hi', hi0]
    rw [wrap64 (n := (i : Int) + 1) (by omega) (by omega)]
    refine next_at [] (i + 1) (by omega) (by omega) rfl ?_ ?_
    · (try push_cast -implicitDefEqProofs [eq_self, iff_self])
    · (try push_cast -implicitDefEqProofs [eq_self, iff_self])
  · have hi' : ((i : Int) < (l.length : Int)) = False := by simp; omega
    push_cast -implicitDefEqProofs [eq_self, iff_self, hi']
end
section
attribute [local push_cast] encIs_pure encNs_pure encN_eq encM_eq encJ_eq encJs_pure plus_obj0 plus_set0 piL_is00 piL_is0 piL_isk encIs_one encNs_four
theorem far_small {m : Mm} {k : Int} (hk : k ≤ 1000) (h : farM m k = true) : m.Small ∧ (m.N.length : Int) ≤ k ∧ (m.G.length : Int) ≤ k ∧ (m.P.length : Int) ≤ k := by
  unfold farM at h
  simp only [Bool.and_eq_true, decide_eq_true_eq] at h
  exact ⟨⟨by omega, by omega, by omega⟩, h.1.1, h.1.2, h.2⟩
end
section
attribute [local push_cast] encT_mk encT_take encT_len encT_one encTs_pure encT_pure encIs_pure encNs_pure encN_eq encM_eq encJ_eq encJs_pure plus_obj0 plus_set0 piL_is00 piL_is0 piL_isk encIs_one encNs_four
theorem treesM_short (m : Mm) (g : Int) : (treesM m g).length ≤ 184 := by
  by_cases h : m.may = true ∧ 0 ≤ g ∧ g < m.P.length
  · obtain ⟨k, rfl⟩ : ∃ k : Nat, g = k := ⟨g.toNat, by omega⟩
    rw [treesM_len ⟨h.1, by omega⟩, ← allTs_len]
    exact List.length_filter_le _ _
  · rw [treesM_out h]; simp
theorem treesM_ok {m : Mm} {g : Int} : ∀ t ∈ treesM m g, t.Ok := fun t ht => by
  rw [treesM_mem] at ht
  exact may_ok ht.2.1
end
section
attribute [local push_cast] encIs_pure plus_obj0 plus_set0 piL_is00 piL_is0 piL_isk encIs_one
theorem MayR15_ok (p : List Int) (hp : p.length ≤ 1000000) : Quiet Go.Proofs.Try.prog 77 [.sl (p.map encI)] (.bool (mayS p)) := by
  refine quiet_of (rs := #[.tmp 2]) Go.Proofs.Try.func77 rfl rfl rfl mixed rfl rfl fun H hs => ?_
  push_cast -implicitDefEqProofs [eq_self, iff_self]
  refine loop_at hs (σ := Nat) (fun i => i ≤ p.length ∧ ∀ k, k < i → 0 ≤ p.getD k 0 ∧ p.getD k 0 ≤ k) (fun i => p.length - i)
    (fun i => [(3, .int i), (0, .sl (p.map encI))]) (fun i => []) [] 0 ⟨by omega, fun k hk => by omega⟩ rfl ?_ ?_ ?_
  · (try push_cast -implicitDefEqProofs [eq_self, iff_self])
  · (try push_cast -implicitDefEqProofs [eq_self, iff_self])
  rintro i ⟨hi2, hall⟩
  by_cases hi : i < p.length
  · have hi' : ((i : Int) < (p.length : Int)) = True := by simp; omega
    have hi0 : (0 ≤ (i : Int)) = True := by simp
    have hget := int_at hi
    have hbad : ¬ (0 ≤ p.getD i 0 ∧ p.getD i 0 ≤ i) → mayS p = false := fun h => by
      rw [Bool.eq_false_iff]
      intro hm
      exact h ((mayS_iff.1 hm).1 i hi)
    have hall' : (0 ≤ p.getD i 0 ∧ p.getD i 0 ≤ i) → ∀ k, k < i + 1 → 0 ≤ p.getD k 0 ∧ p.getD k 0 ≤ k := fun h k hk => by
      rcases Nat.lt_succ_iff_lt_or_eq.1 hk with h1 | h1
      · exact hall k h1
      · rw [h1]; exact h
    generalize p.getD i 0 = x at hget hbad hall'
    by_cases h1 : x < 0
    · have hd : decide (x < 0) = true := decide_eq_true h1
      rw [hbad (by omega)]
      push_cast -implicitDefEqProofs [eq_self, iff_self, hi', hi0, hget, hd, List.length_map]
      repeat (refine gskip ?_; push_cast -implicitDefEqProofs [eq_self, iff_self, hi', hi0, hget, hd])
    · have hd : decide (x < 0) = false := decide_eq_false h1
      by_cases h2 : (i : Int) < x
      · have hd2 : decide ((i : Int) < x) = true := decide_eq_true h2
        rw [hbad (by omega)]
        push_cast -implicitDefEqProofs [eq_self, iff_self, hi', hi0, hget, hd, hd2, List.length_map]
      · have hd2 : decide ((i : Int) < x) = false := decide_eq_false h2
        push_cast -implicitDefEqProofs [eq_self, iff_self, hi', hi0, hget, hd, hd2, List.length_map]
        rw [wrap64 (by omega) (by omega)]
        refine next_at [] (i + 1) ⟨by omega, hall' (by omega)⟩ (by omega) rfl ?_ ?_
        · (try push_cast -implicitDefEqProofs [eq_self, iff_self])
        · (try push_cast -implicitDefEqProofs [eq_self, iff_self])
  · have hi' : ((i : Int) < (p.length : Int)) = False := by simp; omega
    obtain rfl : i = p.length := by omega
    have hm : mayS p = decide (p.length ≤ 400) := by
      rw [mayS_cut, List.all_eq_true.2 (fun k hk => ?_), Bool.true_and]
      have := hall k (List.mem_range.1 hk)
      simp only [Bool.and_eq_true, decide_eq_true_eq]
      exact this
    rw [hm]
    push_cast -implicitDefEqProofs [eq_self, iff_self, hi', List.length_map]
    exact decide_eq_decide.2 (by omega)
theorem FindR15_ok (p : List Int) (hp : p.length ≤ 1000000) (i : Int) : Quiet Go.Proofs.Try.prog 100 [.sl (p.map encI), .int i] (.int (findS p i)) := by
  refine quiet_of (rs := #[.tmp 4]) Go.Proofs.Try.func100 rfl rfl rfl mixed rfl rfl fun H hs => ?_
  push_cast -implicitDefEqProofs [eq_self, iff_self]
  refine callq (MayR15_ok p hp) ?_
  by_cases hc : mayS p = true ∧ 0 ≤ i ∧ i < p.length
  case neg =>
    rw [findS_none hc]
    cases hm : mayS p with
    | false =>
      push_cast -implicitDefEqProofs [eq_self, iff_self]
      repeat (refine gskip ?_; push_cast -implicitDefEqProofs [eq_self, iff_self])
    | true =>
      by_cases h0 : i < 0
      · have hd : decide (i < 0) = true := decide_eq_true h0
        push_cast -implicitDefEqProofs [eq_self, iff_self, hd]
        repeat (refine gskip ?_; push_cast -implicitDefEqProofs [eq_self, iff_self, hd])
      · have hd : decide (i < 0) = false := decide_eq_false h0
        have hd2 : decide ((p.length : Int) ≤ i) = true := decide_eq_true (by
          by_cases h : i < p.length
          · exact absurd ⟨hm, by omega, h⟩ hc
          · omega)
        push_cast -implicitDefEqProofs [eq_self, iff_self, hd, hd2, List.length_map]
  obtain ⟨hm, h0, hlt⟩ := hc
  obtain ⟨n, rfl⟩ : ∃ n : Nat, i = n := ⟨i.toNat, by omega⟩
  have hn : n < p.length := by omega
  have hd : decide ((n : Int) < 0) = false := decide_eq_false (by omega)
  have hd2 : decide ((p.length : Int) ≤ n) = false := decide_eq_false (by omega)
  rw [findS_at hm hn, hm]
  push_cast -implicitDefEqProofs [eq_self, iff_self, hd, hd2, List.length_map]
  refine loop_at hs (σ := Nat) (fun k => k < p.length ∧ rootN p k = rootN p n) (fun k => k)
    (fun k => [(1, .int k), (0, .sl (p.map encI))]) (fun k => []) [] n ⟨hn, rfl⟩ rfl ?_ ?_ ?_
  · (try push_cast -implicitDefEqProofs [eq_self, iff_self])
  · (try push_cast -implicitDefEqProofs [eq_self, iff_self])
  rintro k ⟨hk, hr⟩
  have hget := int_at hk
  have hx := up_lt hm hk
  have hk' : ((k : Int) < (p.length : Int)) = True := eq_true (by omega)
  have hk0 : (0 ≤ (k : Int)) = True := by simp
  by_cases hs' : p.getD k 0 = k
  · rw [← hr, rootN_self hs']
    have hd3 : (p.getD k 0 = (k : Int)) = True := eq_true hs'
    generalize p.getD k 0 = x at hget hx hs' hd3
    subst hs'
    push_cast -implicitDefEqProofs [eq_self, iff_self, hk', hk0, hget, hd3, List.length_map]
  · have hup := rootN_up hm hk hs'
    generalize p.getD k 0 = x at hget hx hs' hup
    obtain ⟨x, rfl⟩ : ∃ y : Nat, x = y := ⟨x.toNat, by omega⟩
    have hd3 : ((x : Int) = (k : Int)) = False := eq_false hs'
    push_cast -implicitDefEqProofs [eq_self, iff_self, hk', hk0, hget, hd3, List.length_map]
    refine next_at [] x ⟨by omega, by rw [← hr, hup, Int.toNat_natCast]⟩ (by omega) rfl ?_ ?_
    · (try push_cast -implicitDefEqProofs [eq_self, iff_self])
    · (try push_cast -implicitDefEqProofs [eq_self, iff_self])
end
end Go.Sim.Try
