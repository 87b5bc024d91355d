/- What the row rests on, part 6. Conditions: none. -/
import Derived.Test.YtagfconjgajlgaaM5
set_option linter.unusedSimpArgs false
set_option linter.unusedVariables false
set_option maxRecDepth 100000
namespace Go.Sim.Try
open Go Go.Sim
attribute [local push_cast] aops_cons aops_nil aopG_none aopG_some aopP_eq aopE_eq aopC_eq aopE?_eq aopC?_eq aopB_eq aopB?_eq aopN_eq aopN?_eq anxt anext amrange alast amapNil abr anilq gopP_eq gopL_eq ahead_cons ahead_nil ahdG_none ahdG_some ahdP_eq ahdN_eq ahdC_eq ahdN?_eq ahdS_eq ahdS?_eq astoreN ahdC?_eq ghdP_eq ghdC_eq ghdC?_eq ghdZ_f ghdZ_t ahdI_eq ahdI?_eq ghdN?_eq aim_nil aim_cons isIn_nil isIn_none isIn_cons aimm aheP_eq aheA_eq aheC_eq aheC?_eq aheI?_eq aheA?_eq gheP_eq gheC_eq gheC?_eq gheZ_eq aheG_none aheG_some aheff_cons aheff_nil aapp gro_rsl gro_lit gro_esl opt_some opt_none no_eq acondT_true acondT_false acondT_lit abytes bytesU aw_skip aw_region aw_regionD aw_seq aw_cond aw_block aw_loop aw_exit aw_label aw_ret thn_normal thn_exit thn_ret inb_normal inb_exit inb_ret qret_ret qret_normal gcond apure aeff anew acallee ares aresT aresL aresC ares1 qfin_eq ev ofV evL gokL tget tput_some tput_none initT abin aint aun aload afaddr aiaddr afield aindex aextract apick pickv_lit Bool.or_false Bool.false_or Bool.or_true Bool.true_or imp_self aslice chunk roomB abound aconv abuild afill splice alen aminmax abuiltin anil apart Value.oneCell' astore aappend srcEs abuildSlice amakeSlice amapPut aclear aentry aestore alookup aput afind mget keyV sameV_int Option.isSome_some Option.isSome_none cond_true cond_false asets isEq plus_obj plus_nxt plus_add plus_set plus_del IntKind.bits Option.map_some Option.map_none Option.bind_some Option.bind_none Option.join_some Option.getD_some Option.getD_none Option.toList List.getElem?_toArray List.getElem?_cons_zero List.getElem?_cons_succ List.getElem?_nil List.length_cons List.length_nil List.length_map List.head?_cons List.cons_append List.nil_append List.append_nil List.map_cons List.map_nil List.getD_cons_zero List.getD_cons_succ List.replicate_succ List.replicate_zero List.set_cons_zero List.set_cons_succ List.take_succ_cons List.take_zero List.drop_succ_cons List.drop_zero List.all_cons List.all_nil Nat.zero_add if_true if_false true_and and_true false_and and_false true_implies implies_true forall_const Bool.and_true Bool.true_and Bool.false_and Bool.and_false Bool.true_beq Bool.false_beq Bool.not_not beq_tt beq_ff Int.toNat_natCast decide_true decide_false Bool.not_true Bool.not_false Bool.true_eq_false Bool.false_eq_true false_implies exists_prop eq_self bne_self_eq_false beq_self_eq_true decide_eq_true_eq decide_eq_false_iff_not Bool.not_eq_true' Bool.not_eq_false' AV.int AV.bool AV.nilS ne_eq not_false_eq_true not_true_eq_false exists_eq_left exists_eq_left' Nat.lt_irrefl core_lit grd_lit acells_lit one_lit core_agg grd_agg acells_agg one_agg core_tup grd_tup acells_tup one_tup core_sl grd_sl acells_sl one_sl core_esl grd_esl acells_esl one_esl core_rsl grd_rsl acells_rsl one_rsl core_ptr grd_ptr acells_ptr one_ptr core_iptr grd_iptr acells_iptr one_iptr core_clo grd_clo acells_clo one_clo core_mp grd_mp acells_mp one_mp core_any grd_any acells_any one_any core_gv grd_gv fit_agg fit_lit fit_sl fit_esl fit_rsl fit_ptr fit_iptr fit_clo fit_mp retq_ret retq_normal set_nxt set_set plus_obj_set plus_set_set app_get0 app_get app_set0 app_set List.append_assoc List.length_append List.length_set Nat.lt_add_one Nat.add_lt_add_iff_right Nat.lt_add_right_iff_pos Nat.add_lt_add_iff_left List.mem_cons List.not_mem_nil or_false forall_eq forall_eq_or_imp lt_s0 lt_s1 lt_s2 lt_s3 lt_s4 lt_s5 lt_s6 lt_s7 lt_s8 pickv_t pickv_f or_nand or_nand2 imp_and_l SealT SealOs sealO_cells sl_lit sl_any sl_agg sl_tup sl_sl sl_rsl slO sl_esl sl_nil sl_eslesl sl_eslnil sl_rslrsl sl_eslrsl sl_nilrsl sl_ptr sl_iptr sl_ptri slP sl_clo sl_mp sl_gv sll_nil sll_cons slll_nil slll_cons shut_eq shutO Option.join_none Fn.func.injEq and_self sealL_self sealLL_self seal_self PureL PureLL Pure Nat.le_refl Nat.zero_le AV.lit.injEq Value.int.injEq Value.bool.injEq false_or or_true true_or Int.natCast_zero Int.ofNat_zero Int.cast_ofNat_Int Int.natCast_add Int.natCast_one Option.some.injEq piL_is sop_nil sop_cons sop_none sop_some sopO_some sop_new shut_pi shutL_nil shutL_cons exQ_exit exQ_ret exQ_normal Go.Sim.Try.ty_load1 Go.Sim.Try.ty_zero1 Go.Sim.Try.ty_load2 Go.Sim.Try.ty_zero2 Go.Sim.Try.ty_und2 Go.Sim.Try.ty_load3 Go.Sim.Try.ty_zero3 Go.Sim.Try.ty_und3 Go.Sim.Try.ty_load4 Go.Sim.Try.ty_zero4 Go.Sim.Try.ty_und4 Go.Sim.Try.ty_load5 Go.Sim.Try.ty_zero5 Go.Sim.Try.ty_und5 Go.Sim.Try.ty_load9 Go.Sim.Try.ty_zero9 Go.Sim.Try.ty_und9 Go.Sim.Try.ty_load21 Go.Sim.Try.ty_zero21 Go.Sim.Try.ty_und21 Go.Sim.Try.ty_load22 Go.Sim.Try.ty_zero22 Go.Sim.Try.ty_el22 Go.Sim.Try.ty_zeroE22 Go.Sim.Try.ty_load23 Go.Sim.Try.ty_zero23 Go.Sim.Try.ty_el23 Go.Sim.Try.ty_zeroE23 Go.Sim.Try.ty_load25 Go.Sim.Try.ty_zero25 Go.Sim.Try.ty_fld25_0 Go.Sim.Try.ty_part25_0 Go.Sim.Try.ty_fld25_1 Go.Sim.Try.ty_part25_1 Go.Sim.Try.ty_fld25_2 Go.Sim.Try.ty_part25_2 Go.Sim.Try.ty_struct25 Go.Sim.Try.ty_load29 Go.Sim.Try.ty_zero29 Go.Sim.Try.ty_el29 Go.Sim.Try.ty_zeroE29 Go.Sim.Try.ty_load34 Go.Sim.Try.ty_zero34 Go.Sim.Try.ty_und34 Go.Sim.Try.ty_load41 Go.Sim.Try.ty_zero41 Go.Sim.Try.ty_fld41_0 Go.Sim.Try.ty_part41_0 Go.Sim.Try.ty_fld41_1 Go.Sim.Try.ty_part41_1 Go.Sim.Try.ty_fld41_2 Go.Sim.Try.ty_part41_2 Go.Sim.Try.ty_struct41 Go.Sim.Try.ty_load47 Go.Sim.Try.ty_zero47 Go.Sim.Try.ty_el47 Go.Sim.Try.ty_zeroE47 Go.Sim.Try.ty_load55 Go.Sim.Try.ty_zero55 Go.Sim.Try.ty_fld55_0 Go.Sim.Try.ty_part55_0 Go.Sim.Try.ty_fld55_1 Go.Sim.Try.ty_part55_1 Go.Sim.Try.ty_fld55_2 Go.Sim.Try.ty_part55_2 Go.Sim.Try.ty_fld55_3 Go.Sim.Try.ty_part55_3 Go.Sim.Try.ty_struct55 Go.Sim.Try.ty_load56 Go.Sim.Try.ty_zero56 Go.Sim.Try.ty_load58 Go.Sim.Try.ty_zero58 Go.Sim.Try.ty_fld58_0 Go.Sim.Try.ty_part58_0 Go.Sim.Try.ty_fld58_1 Go.Sim.Try.ty_part58_1 Go.Sim.Try.ty_struct58 Go.Sim.Try.ty_load60 Go.Sim.Try.ty_zero60 Go.Sim.Try.ty_load67 Go.Sim.Try.ty_zero67 Go.Sim.Try.ty_el67 Go.Sim.Try.ty_zeroE67 Go.Sim.Try.ty_load68 Go.Sim.Try.ty_zero68 Go.Sim.Try.ty_und68 Go.Sim.Try.ty_vzero58 Go.Sim.Try.ty_load72 Go.Sim.Try.ty_zero72 Go.Sim.Try.ty_el72 Go.Sim.Try.ty_zeroE72 Go.Sim.Try.ty_load79 Go.Sim.Try.ty_zero79 Go.Sim.Try.ty_load80 Go.Sim.Try.ty_zero80 Go.Sim.Try.ty_und80 Go.Sim.Try.ty_vzero4 Go.Sim.Try.ty_load82 Go.Sim.Try.ty_zero82 Go.Sim.Try.ty_fld82_0 Go.Sim.Try.ty_part82_0 Go.Sim.Try.ty_fld82_1 Go.Sim.Try.ty_part82_1 Go.Sim.Try.ty_fld82_2 Go.Sim.Try.ty_part82_2 Go.Sim.Try.ty_struct82 Go.Sim.Try.ty_load86 Go.Sim.Try.ty_zero86 Go.Sim.Try.ty_und86 Go.Sim.Try.ty_vzero3 Go.Sim.Try.ty_load87 Go.Sim.Try.ty_zero87 Go.Sim.Try.ty_arr87 Go.Sim.Try.ty_part87_0 Go.Sim.Try.ty_part87_1 Go.Sim.Try.ty_struct87 Go.Sim.Try.ty_load98 Go.Sim.Try.ty_zero98 Go.Sim.Try.ty_und98 Go.Sim.Try.ty_load100 Go.Sim.Try.ty_zero100 Go.Sim.Try.ty_und100 Go.Sim.Try.ty_el100 Go.Sim.Try.ty_zeroE100 Go.Sim.Try.ty_load104 Go.Sim.Try.ty_zero104 Go.Sim.Try.ty_load109 Go.Sim.Try.ty_zero109 Go.Sim.Try.ty_load112 Go.Sim.Try.ty_zero112 Go.Sim.Try.ty_und112 Go.Sim.Try.ty_load119 Go.Sim.Try.ty_zero119 Go.Sim.Try.ty_und119 Go.Sim.Try.ty_load121 Go.Sim.Try.ty_zero121 Go.Sim.Try.ty_und121 Go.Sim.Try.ty_load129 Go.Sim.Try.ty_zero129 Go.Sim.Try.ty_und129 Go.Sim.Try.ty_load133 Go.Sim.Try.ty_zero133
section
attribute [local push_cast] encIs_pure encNs_pure encN_eq encM_eq plus_obj0 plus_set0 piL_is00 piL_is0 piL_isk encIs_one encNs_four
theorem nodeR_ok (m : Mm) (n : Nd) : Quiet Go.Proofs.Try.prog 78 [encM m, .agg (encN n)] (.bool (m.node n)) := by
  refine quiet_of (rs := #[.tmp 4]) Go.Proofs.Try.func78 rfl rfl rfl mixed rfl rfl fun H hs => ?_
  obtain ⟨j, o, a, b⟩ := n
  cases j
  · have h0 : decide (o < 4) = decide (o ≤ 3) := decide_eq_decide.2 (by omega)
    have hv : m.node ⟨false, o, a, b⟩ = (decide (0 ≤ o) && decide (o ≤ 3) && decide (a = 0) && decide (b = 0)) := by
      rw [node_cut, if_neg Bool.false_ne_true, ← h0]
      simp only
      cases decide (0 ≤ o) <;> cases decide (o < 4) <;> cases decide (a = 0) <;> cases decide (b = 0) <;> rfl
    rw [hv]
    cases h1 : decide (0 ≤ o) with
    | false =>
      push_cast -implicitDefEqProofs [eq_self, iff_self, h1]
      repeat (refine gskip ?_; push_cast -implicitDefEqProofs [eq_self, iff_self, h1])
    | true =>
      cases h2 : decide (o ≤ 3) with
      | false =>
        push_cast -implicitDefEqProofs [eq_self, iff_self, h1, h2]
        repeat (refine gskip ?_; push_cast -implicitDefEqProofs [eq_self, iff_self, h1, h2])
      | true =>
        cases h3 : decide (a = 0) with
        | false =>
          push_cast -implicitDefEqProofs [eq_self, iff_self, h1, h2, h3]
          repeat (refine gskip ?_; push_cast -implicitDefEqProofs [eq_self, iff_self, h1, h2, h3])
        | true =>
          cases h4 : decide (b = 0) with
          | false =>
            push_cast -implicitDefEqProofs [eq_self, iff_self, h1, h2, h3, h4]
            repeat (refine gskip ?_; push_cast -implicitDefEqProofs [eq_self, iff_self, h1, h2, h3, h4])
          | true =>
            push_cast -implicitDefEqProofs [eq_self, iff_self, h1, h2, h3, h4]
  · have hv : m.node ⟨true, o, a, b⟩ = (decide (o = 0) && decide (0 ≤ a) && decide (a < m.P.length) && decide (0 ≤ b) && decide (b < m.P.length)) := by
      rw [node_cut, if_pos rfl, inG_cut, inG_cut]
      simp only [Bool.and_assoc]
    rw [hv]
    cases h1 : decide (o = 0) with
    | false =>
      push_cast -implicitDefEqProofs [eq_self, iff_self, h1, List.length_map]
      repeat (refine gskip ?_; push_cast -implicitDefEqProofs [eq_self, iff_self, h1, List.length_map])
    | true =>
      cases h2 : decide (0 ≤ a) with
      | false =>
        push_cast -implicitDefEqProofs [eq_self, iff_self, h1, h2, List.length_map]
        repeat (refine gskip ?_; push_cast -implicitDefEqProofs [eq_self, iff_self, h1, h2, List.length_map])
      | true =>
        cases h3 : decide (a < (m.P.length : Int)) with
        | false =>
          push_cast -implicitDefEqProofs [eq_self, iff_self, h1, h2, h3, List.length_map]
          repeat (refine gskip ?_; push_cast -implicitDefEqProofs [eq_self, iff_self, h1, h2, h3, List.length_map])
        | true =>
          cases h4 : decide (0 ≤ b) with
          | false =>
            push_cast -implicitDefEqProofs [eq_self, iff_self, h1, h2, h3, h4, List.length_map]
            repeat (refine gskip ?_; push_cast -implicitDefEqProofs [eq_self, iff_self, h1, h2, h3, h4, List.length_map])
          | true =>
            cases h5 : decide (b < (m.P.length : Int)) with
            | false =>
              push_cast -implicitDefEqProofs [eq_self, iff_self, h1, h2, h3, h4, h5, List.length_map]
              repeat (refine gskip ?_; push_cast -implicitDefEqProofs [eq_self, iff_self, h1, h2, h3, h4, h5, List.length_map])
            | true =>
              push_cast -implicitDefEqProofs [eq_self, iff_self, h1, h2, h3, h4, h5, List.length_map]
theorem findR_ok (m : Mm) (hm : m.Small) (g : Int) : Quiet Go.Proofs.Try.prog 64 [encM m, .int g] (.int (m.find g)) := by
  refine quiet_of (rs := #[.tmp 4]) Go.Proofs.Try.func64 rfl rfl rfl mixed rfl rfl fun H hs => ?_
  push_cast -implicitDefEqProofs [eq_self, iff_self]
  refine callq (FindR15_ok m.P hm.2.2 g) ?_
  rw [Mm.find]
  push_cast -implicitDefEqProofs [eq_self, iff_self]
theorem canonR_ok (m : Mm) (hm : m.Small) (n : Nd) : Quiet Go.Proofs.Try.prog 112 [encM m, .agg (encN n)] (.agg (encN (m.canon n))) := by
  have hA := FindR15_ok m.P hm.2.2 n.a
  have hB := FindR15_ok m.P hm.2.2 n.b
  refine quiet_of (rs := #[.cell 4 55]) Go.Proofs.Try.func112 rfl rfl rfl mixed rfl rfl fun H hs => ?_
  push_cast -implicitDefEqProofs [eq_self, iff_self]
  refine callq (nodeR_ok m n) ?_
  push_cast -implicitDefEqProofs [eq_self, iff_self]
  refine callq (MayR15_ok m.P hm.2.2) ?_
  cases hn : m.node n with
  | false =>
    have hc : m.canon n = n := by rw [Mm.canon, hn, Bool.and_false]; rfl
    rw [hc]
    push_cast -implicitDefEqProofs [eq_self, iff_self]
    repeat (refine gskip ?_; push_cast -implicitDefEqProofs [eq_self, iff_self])
  | true =>
    cases hP : mayS m.P with
    | false =>
      have hc : m.canon n = n := by rw [Mm.canon, hP]; rfl
      rw [hc]
      push_cast -implicitDefEqProofs [eq_self, iff_self]
      repeat (refine gskip ?_; push_cast -implicitDefEqProofs [eq_self, iff_self])
    | true =>
      cases hj : n.jn with
      | false =>
        have hc : m.canon n = n := by rw [Mm.canon, hP, hn]; exact canon_leaf hj
        rw [hc]
        push_cast -implicitDefEqProofs [eq_self, iff_self, hj]
      | true =>
        obtain ⟨h0, ⟨a1, a2⟩, b1, b2⟩ := node_join hn hj
        have hc : m.canon n = ⟨true, 0, findS m.P n.a, findS m.P n.b⟩ := by
          rw [Mm.canon, hP, hn]
          show canonR _ n = _
          rw [canonR, if_pos hj, rootsS_at hP (by omega), rootsS_at hP (by omega), h0, hj]
          rw [findS, if_pos (by simp [hP]; omega), findS, if_pos (by simp [hP]; omega)]
        rw [hc]
        generalize findS m.P n.a = x at hA
        generalize findS m.P n.b = y at hB
        push_cast -implicitDefEqProofs [eq_self, iff_self, hj]
        refine areg_at 11 (by kernel_rfl) (by kernel_rfl) ?_
        push_cast -implicitDefEqProofs [eq_self, iff_self]
        refine ahdq hA ?_
        push_cast -implicitDefEqProofs [eq_self, iff_self]
        refine ahdq hB ?_
        push_cast -implicitDefEqProofs [eq_self, iff_self]
theorem canon_cs {m : Mm} (hf : m.form = true) {i : Nat} (hi : i < m.N.length) : m.canon (m.N.getD i nd0) = m.cs.getD i nd0 := by
  rw [Mm.canon, form_P hf, form_N hf hi, cs_at hi]; rfl
theorem find_rg {m : Mm} (hf : m.form = true) {i : Nat} (hi : i < m.N.length) : findS m.P (m.G.getD i 0) = m.rg i := by
  have hG := form_G hf hi
  have h1 := findS_at (form_P hf) (i := (m.G.getD i 0).toNat) (by omega)
  rw [Int.toNat_of_nonneg hG.1] at h1
  rw [h1, rg_at hf hi]
theorem open_here {m : Mm} {i k : Nat} (hi : i < m.N.length) (hk : k < i) (hno : ∀ j, j < i → m.bad j = false) (hin : ∀ k', k' < k → m.cs.getD k' nd0 = m.cs.getD i nd0 → m.rg k' = m.rg i)
    (hs : m.cs.getD i nd0 = m.cs.getD k nd0) (hr : m.rg i ≠ m.rg k) : m.openM = some (m.G.getD k 0, m.G.getD i 0) := by
  have ha : m.at1 i = m.at1 k := by show idxN _ _ = idxN _ _; rw [hs]
  have hak : m.at1 k ≤ k := at1_le (by omega)
  have hbk := hno k hk
  rw [bad_cut] at hbk
  have hbk' : m.rg (m.at1 k) = m.rg k := by simpa using hbk
  have hka : m.at1 i = k := by
    rcases Nat.lt_or_ge (m.at1 i) k with h | h
    · have := hin _ h (at1_at hi)
      rw [ha, hbk'] at this
      exact absurd this.symm hr
    · omega
  have hb : m.bad i = true := by
    rw [bad_cut, hka]
    simp [Ne.symm hr]
  rw [openM_some hi hb hno, hka]
theorem open_not {m : Mm} {i : Nat} (hi : i < m.N.length) (hin : ∀ k', k' < i → m.cs.getD k' nd0 = m.cs.getD i nd0 → m.rg k' = m.rg i) : m.bad i = false := by
  rw [bad_cut]
  rcases Nat.lt_or_ge (m.at1 i) i with h | h
  · rw [hin _ h (at1_at hi)]; simp
  · have : m.at1 i = i := by have := at1_le hi; omega
    rw [this]; simp
set_option maxHeartbeats 4000000 in
theorem openR_ok (m : Mm) (hf : m.form = true) : Quiet Go.Proofs.Try.prog 79 [encM m] (.tup [.int ((m.openM).getD (-1, -1)).1, .int ((m.openM).getD (-1, -1)).2]) := by
  have hm := form_small hf
  have hNl := ((form_iff m).1 hf).2.2.1
  have hGl := ((form_iff m).1 hf).2.1
  refine quiet_of (rs := #[.tmp 2, .tmp 3]) Go.Proofs.Try.func79 rfl rfl rfl mixed rfl rfl fun H hs => ?_
  push_cast -implicitDefEqProofs [eq_self, iff_self]
  refine loop_at hs (σ := Nat) (fun i => i ≤ m.N.length ∧ ∀ j, j < i → m.bad j = false) (fun i => m.N.length - i)
    (fun i => [(4, .int i), (1, .ptr (H.nxt + 0) 3 0 0)]) (fun i => [some (.cells 3 [[.sl (m.N.map encN), .sl (m.G.map encI), .sl (m.P.map encI)]] 0)]) [some 0] 0 ⟨by omega, fun j hj => by omega⟩ rfl ?_ ?_ ?_
  · (try push_cast -implicitDefEqProofs [eq_self, iff_self])
  · (try push_cast -implicitDefEqProofs [eq_self, iff_self])
  rintro i ⟨hi2, hno⟩
  by_cases hi : i < m.N.length
  case neg =>
    obtain rfl : i = m.N.length := by omega
    have hi' : ((m.N.length : Int) < (m.N.length : Int)) = False := by simp
    rw [openM_none hno]
    push_cast -implicitDefEqProofs [eq_self, iff_self, hi', List.length_map]
  have hi' := inb_true hi
  have hi0 : (0 ≤ (i : Int)) = True := by simp
  push_cast -implicitDefEqProofs [eq_self, iff_self, hi', List.length_map]
  refine loop_at hs (σ := Nat) (fun k => k ≤ i ∧ ∀ k', k' < k → m.cs.getD k' nd0 = m.cs.getD i nd0 → m.rg k' = m.rg i) (fun k => i - k)
    (fun k => [(5, .int k), (4, .int i), (1, .ptr (H.nxt + 0) 3 0 0)]) (fun k => [some (.cells 3 [[.sl (m.N.map encN), .sl (m.G.map encI), .sl (m.P.map encI)]] 0)]) [some 0] 0 ⟨by omega, fun j hj => by omega⟩ rfl ?_ ?_ ?_
  · (try push_cast -implicitDefEqProofs [eq_self, iff_self])
  · (try push_cast -implicitDefEqProofs [eq_self, iff_self])
  rintro k ⟨hk2, hin⟩
  by_cases hk : k < i
  case neg =>
    obtain rfl : k = i := by omega
    have hk' : ((k : Int) < (k : Int)) = False := by simp
    have hb := open_not hi hin
    push_cast -implicitDefEqProofs [eq_self, iff_self, hk']
    rw [wrap64 (by omega) (by omega)]
    refine next_at [some 0] (k + 1) ⟨by omega, fun j hj => ?_⟩ (by omega) rfl ?_ ?_
    · rcases Nat.lt_succ_iff_lt_or_eq.1 hj with h | h
      · exact hno j h
      · rw [h]; exact hb
    · (try push_cast -implicitDefEqProofs [eq_self, iff_self])
    · (try push_cast -implicitDefEqProofs [eq_self, iff_self])
  have hk' : ((k : Int) < (i : Int)) = True := by simp; omega
  have hk0 : (0 ≤ (k : Int)) = True := by simp
  have hkN := inb_true (n := k) (k := m.N.length) (by omega)
  have hiG := inb_true (n := i) (k := m.G.length) (by omega)
  have hkG := inb_true (n := k) (k := m.G.length) (by omega)
  have gi1 := encN_get m.N i hi
  have gk1 := encN_get m.N k (by omega)
  have gi2 := int_at (p := m.G) (i := i) (by omega)
  have gk2 := int_at (p := m.G) (i := k) (by omega)
  have ci := canonR_ok m hm (m.N.getD i nd0)
  have ck := canonR_ok m hm (m.N.getD k nd0)
  rw [canon_cs hf hi] at ci
  rw [canon_cs hf (by omega)] at ck
  have fi := FindR15_ok m.P hm.2.2 (m.G.getD i 0)
  have fk := FindR15_ok m.P hm.2.2 (m.G.getD k 0)
  rw [find_rg hf hi] at fi
  rw [find_rg hf (by omega)] at fk
  have hhere := open_here hi hk hno hin
  have hmore : (m.cs.getD k nd0 = m.cs.getD i nd0 → m.rg k = m.rg i) → ∀ k', k' < k + 1 → m.cs.getD k' nd0 = m.cs.getD i nd0 → m.rg k' = m.rg i := fun h k' hk' => by
    rcases Nat.lt_succ_iff_lt_or_eq.1 hk' with h1 | h1
    · exact hin k' h1
    · rw [h1]; exact h
  generalize m.N.getD i nd0 = ni at gi1 ci
  generalize m.N.getD k nd0 = nk at gk1 ck
  generalize m.G.getD i 0 = Gi at gi2 fi hhere
  generalize m.G.getD k 0 = Gk at gk2 fk hhere
  generalize m.cs.getD i nd0 = xi at ci hhere hmore
  generalize m.cs.getD k nd0 = xk at ck hhere hmore
  generalize m.rg i = ri at fi hhere hmore
  generalize m.rg k = rk at fk hhere hmore
  push_cast -implicitDefEqProofs [eq_self, iff_self, hk']
  refine areg_at 8 (by kernel_rfl) (by kernel_rfl) ?_
  push_cast -implicitDefEqProofs [eq_self, iff_self, hi', hi0, List.length_map, gi1]
  refine ahdq ci ?_
  push_cast -implicitDefEqProofs [eq_self, iff_self]
  refine areg_at 8 (by kernel_rfl) (by kernel_rfl) ?_
  push_cast -implicitDefEqProofs [eq_self, iff_self, hkN, hk0, List.length_map, gk1]
  refine ahdq ck ?_
  push_cast -implicitDefEqProofs [eq_self, iff_self]
  refine areg_at 22 (by kernel_rfl) (by kernel_rfl) ?_
  have hcm := cmpN xi.jn xk.jn xi.occ xi.a xi.b xk.occ xk.a xk.b
  have hco : (xi.jn == xk.jn && (decide (xi.occ = xk.occ) && (decide (xi.a = xk.a) && (decide (xi.b = xk.b) && true)))) = eqN xi xk := rfl
  rw [hco] at hcm
  rw [Bool.and_true] at hco
  cases he : eqN xi xk with
  | false =>
    have hne : xk = xi → rk = ri := fun h => by rw [h, eqN_refl] at he; cases he
    rw [he] at hcm hco
    push_cast -implicitDefEqProofs [eq_self, iff_self, lits, cellsEq, cellEq, hcm, hco]
    repeat (refine gcallq .any (fun h => Bool.noConfusion h) ?_; push_cast -implicitDefEqProofs [eq_self, iff_self, lits, cellsEq, cellEq, hcm, hco])
    rw [wrap64 (by omega) (by omega)]
    refine next_at [some 0] (k + 1) ⟨by omega, hmore hne⟩ (by omega) rfl ?_ ?_
    · (try push_cast -implicitDefEqProofs [eq_self, iff_self])
    · (try push_cast -implicitDefEqProofs [eq_self, iff_self])
  | true =>
    have hee := eqN_iff.1 he
    rw [he] at hcm hco
    push_cast -implicitDefEqProofs [eq_self, iff_self, lits, cellsEq, cellEq, hcm, hco, hiG, hkG, hi0, hk0, gi2, gk2, List.length_map]
    refine gcallq (.int ri) (fun _ => fi) ?_
    push_cast -implicitDefEqProofs [eq_self, iff_self, hiG, hkG, hi0, hk0, gi2, gk2, List.length_map]
    refine gcallq (.int rk) (fun _ => fk) ?_
    by_cases hr : ri = rk
    · have hd : decide (ri = rk) = true := decide_eq_true hr
      push_cast -implicitDefEqProofs [eq_self, iff_self, hd, hiG, hkG, hi0, hk0, gi2, gk2, List.length_map]
      rw [wrap64 (by omega) (by omega)]
      refine next_at [some 0] (k + 1) ⟨by omega, hmore (fun _ => hr.symm)⟩ (by omega) rfl ?_ ?_
      · (try push_cast -implicitDefEqProofs [eq_self, iff_self])
      · (try push_cast -implicitDefEqProofs [eq_self, iff_self])
    · have hd : decide (ri = rk) = false := decide_eq_false hr
      rw [hhere hee hr]
      push_cast -implicitDefEqProofs [eq_self, iff_self, hd, hiG, hkG, hi0, hk0, gi2, gk2, List.length_map]
      refine areg_at 11 (by kernel_rfl) (by kernel_rfl) ?_
      push_cast -implicitDefEqProofs [eq_self, iff_self, hd, hiG, hkG, hi0, hk0, gi2, gk2, List.length_map, Option.getD_some]
theorem may_no {m : Mm} (h : m.form = false) : m.may = false := by rw [may_def, h]; rfl
set_option maxHeartbeats 4000000 in
theorem mayR_ok (m : Mm) (hm : m.Small) : Quiet Go.Proofs.Try.prog 47 [encM m] (.bool m.may) := by
  refine quiet_of (rs := #[.tmp 2]) Go.Proofs.Try.func47 rfl rfl rfl mixed rfl rfl fun H hs => ?_
  push_cast -implicitDefEqProofs [eq_self, iff_self]
  refine callq (MayR15_ok m.P hm.2.2) ?_
  cases hP : mayS m.P with
  | false =>
    rw [may_no (by rw [Bool.eq_false_iff]; intro h; rw [form_P h] at hP; cases hP)]
    push_cast -implicitDefEqProofs [eq_self, iff_self]
    repeat (refine gskip ?_; push_cast -implicitDefEqProofs [eq_self, iff_self])
  | true =>
  cases hl : decide ((m.G.length : Int) = m.N.length) with
  | false =>
    have hl' := of_decide_eq_false hl
    rw [may_no (by rw [Bool.eq_false_iff]; intro h; have := ((form_iff m).1 h).2.1; omega)]
    push_cast -implicitDefEqProofs [eq_self, iff_self, hl, List.length_map]
    repeat (refine gskip ?_; push_cast -implicitDefEqProofs [eq_self, iff_self, hl, List.length_map])
  | true =>
  have hl' := of_decide_eq_true hl
  cases h4 : decide ((400 : Int) < m.N.length) with
  | true =>
    have h4' := of_decide_eq_true h4
    rw [may_no (by rw [Bool.eq_false_iff]; intro h; have := ((form_iff m).1 h).2.2.1; omega)]
    push_cast -implicitDefEqProofs [eq_self, iff_self, hl, h4, List.length_map]
  | false =>
  have h4' := of_decide_eq_false h4
  push_cast -implicitDefEqProofs [eq_self, iff_self, hl, h4, List.length_map]
  refine loop_at hs (σ := Nat) (fun i => i ≤ m.N.length ∧ ∀ j, j < i → m.node (m.N.getD j nd0) = true ∧ m.inG (m.G.getD j 0) = true) (fun i => m.N.length - i)
    (fun i => [(4, .int i), (1, .ptr (H.nxt + 0) 3 0 0)]) (fun i => [some (.cells 3 [[.sl (m.N.map encN), .sl (m.G.map encI), .sl (m.P.map encI)]] 0)]) [some 0] 0 ⟨by omega, fun j hj => by omega⟩ rfl ?_ ?_ ?_
  · (try push_cast -implicitDefEqProofs [eq_self, iff_self])
  · (try push_cast -implicitDefEqProofs [eq_self, iff_self])
  rintro i ⟨hi2, hall⟩
  by_cases hi : i < m.N.length
  case neg =>
    obtain rfl : i = m.N.length := by omega
    have hi' : ((m.N.length : Int) < (m.N.length : Int)) = False := by simp
    have hf : m.form = true := (form_iff m).2 ⟨hP, by omega, by omega, fun g hg => by
      obtain ⟨j, hj, rfl⟩ := List.getElem_of_mem hg
      have := (hall j (by omega)).2
      rwa [List.getD_eq_getElem?_getD, List.getElem?_eq_getElem hj] at this, fun n hn => by
      obtain ⟨j, hj, rfl⟩ := List.getElem_of_mem hn
      have := (hall j hj).1
      rwa [List.getD_eq_getElem?_getD, List.getElem?_eq_getElem hj] at this⟩
    have hop := openR_ok m hf
    have hop2 : ∀ x, m.openM = some x → 0 ≤ x.1 := fun x hx => by
      obtain ⟨i, k, _, _, _, rfl, _⟩ := openM_at hf hx
      exact Int.natCast_nonneg _
    rw [may_def, hf]
    cases ho : m.openM with
    | none =>
      rw [ho] at hop
      push_cast -implicitDefEqProofs [eq_self, iff_self, hi', List.length_map]
      refine callq hop ?_
      push_cast -implicitDefEqProofs [eq_self, iff_self, Option.getD_none, Option.isNone_none]
    | some x =>
      rw [ho] at hop
      have hx := hop2 x ho
      have hx' : decide (x.1 < 0) = false := decide_eq_false (by omega)
      push_cast -implicitDefEqProofs [eq_self, iff_self, hi', List.length_map]
      refine callq hop ?_
      push_cast -implicitDefEqProofs [eq_self, iff_self, Option.getD_some, Option.isNone_some, hx']
  have hi' := inb_true hi
  have hi0 : (0 ≤ (i : Int)) = True := by simp
  have hiG := inb_true (n := i) (k := m.G.length) (by omega)
  have gn := encN_get m.N i hi
  have gg := int_at (p := m.G) (i := i) (by omega)
  have hno : m.node (m.N.getD i nd0) = false ∨ m.inG (m.G.getD i 0) = false → m.may = false := fun h => by
    refine may_no ?_
    rw [Bool.eq_false_iff]
    intro hf
    have h1 := form_N hf hi
    have h2 := form_G hf hi
    rcases h with h | h
    · rw [h] at h1; cases h1
    · rw [inG_cut, Bool.and_eq_false_iff, decide_eq_false_iff_not, decide_eq_false_iff_not] at h; omega
  have hmore : m.node (m.N.getD i nd0) = true → m.inG (m.G.getD i 0) = true → ∀ j, j < i + 1 → m.node (m.N.getD j nd0) = true ∧ m.inG (m.G.getD j 0) = true := fun h1 h2 j hj => by
    rcases Nat.lt_succ_iff_lt_or_eq.1 hj with h | h
    · exact hall j h
    · rw [h]; exact ⟨h1, h2⟩
  have hnd := nodeR_ok m (m.N.getD i nd0)
  rw [inG_cut] at hno hmore
  generalize m.N.getD i nd0 = n at gn hno hmore hnd
  generalize m.G.getD i 0 = g at gg hno hmore
  push_cast -implicitDefEqProofs [eq_self, iff_self, hi', List.length_map]
  refine areg_at 7 (by kernel_rfl) (by kernel_rfl) ?_
  push_cast -implicitDefEqProofs [eq_self, iff_self, hi', hi0, List.length_map, gn]
  refine ahdq hnd ?_
  push_cast -implicitDefEqProofs [eq_self, iff_self]
  refine areg_at 21 (by kernel_rfl) (by kernel_rfl) ?_
  cases h1 : m.node n with
  | false =>
    rw [hno (.inl h1)]
    push_cast -implicitDefEqProofs [eq_self, iff_self, hiG, hi0, gg, List.length_map]
  | true =>
  cases h2 : decide (g < 0) with
  | true =>
    have h2' := of_decide_eq_true h2
    rw [hno (.inr (by rw [Bool.and_eq_false_iff, decide_eq_false_iff_not]; omega))]
    push_cast -implicitDefEqProofs [eq_self, iff_self, hiG, hi0, gg, h2, List.length_map]
  | false =>
  have h2' := of_decide_eq_false h2
  cases h3 : decide ((m.P.length : Int) ≤ g) with
  | true =>
    have h3' := of_decide_eq_true h3
    rw [hno (.inr (by rw [Bool.and_eq_false_iff, decide_eq_false_iff_not, decide_eq_false_iff_not]; omega))]
    push_cast -implicitDefEqProofs [eq_self, iff_self, hiG, hi0, gg, h2, h3, List.length_map]
  | false =>
    have h3' := of_decide_eq_false h3
    push_cast -implicitDefEqProofs [eq_self, iff_self, hiG, hi0, gg, h2, h3, List.length_map]
    rw [wrap64 (by omega) (by omega)]
    refine next_at [some 0] (i + 1) ⟨by omega, hmore h1 (by rw [Bool.and_eq_true, decide_eq_true_eq, decide_eq_true_eq]; omega)⟩ (by omega) rfl ?_ ?_
    · (try push_cast -implicitDefEqProofs [eq_self, iff_self])
    · (try push_cast -implicitDefEqProofs [eq_self, iff_self])
end
section
mutual
theorem sameT_eq' : ∀ p q : Tr, sameT p q = true → p = q
  | .mk o l, .mk o' m, h => by
    simp only [sameT, Bool.and_eq_true, decide_eq_true_eq] at h
    obtain ⟨rfl, h⟩ := h
    rw [sameTL_eq' l m h]
theorem sameTL_eq' : ∀ l m : List Tr, sameTL l m = true → l = m
  | [], [], _ => rfl
  | x :: l, y :: m, h => by
    simp only [sameTL, Bool.and_eq_true] at h
    rw [sameT_eq' x y h.1, sameTL_eq' l m h.2]
  | [], _ :: _, h => by simp [sameTL] at h
  | _ :: _, [], h => by simp [sameTL] at h
end
theorem all_small' : ∀ i : Fin 15, sameTL (allT 3 (i.val : Int)) (allT 4 (i.val : Int)) = true := by decide +kernel
theorem all_small {a : Int} (h0 : 0 ≤ a) (h : a < 15) : allT 3 a = allT 4 a := by
  obtain ⟨i, rfl⟩ : ∃ i : Fin 15, a = (i.val : Int) := ⟨⟨a.toNat, by omega⟩, by simp; omega⟩
  exact sameTL_eq' _ _ (all_small' i)
theorem cutT_congr {f g : Int → List Tr} {s a : Int} (h : ∀ x : Int, 0 ≤ x → x < 15 → f x = g x) (ha : 1 ≤ a) (hs : s ≤ 15) : cutT f s a = cutT g s a := by
  unfold cutT
  split
  · rename_i hc
    simp only [Bool.and_eq_true, decide_eq_true_eq] at hc
    rw [h a (by omega) (by omega), h (s - a) (by omega) (by omega)]
  · rfl
theorem all_len (a : Int) : (allT 4 a).length ≤ 120 := by
  by_cases h : 1 ≤ a ∧ a < 16
  · obtain ⟨i, rfl⟩ : ∃ i : Fin 16, a = (i.val : Int) := ⟨⟨a.toNat, by omega⟩, by simp; omega⟩
    clear h
    revert i
    decide +kernel
  · rw [allT, if_neg h]; simp
theorem all_out {s : Int} (h : ¬ (1 ≤ s ∧ s < 16)) : allT 4 s = [] := by rw [allT, if_neg h]
def cutsU (s : Int) (n : Nat) : List Tr := (List.range n).flatMap fun (k : Nat) => cutT (allT 4) s ((k : Int) + 1)
theorem cutsU_zero (s : Int) : cutsU s 0 = [] := rfl
theorem cutsU_succ (s : Int) (n : Nat) : cutsU s (n + 1) = cutsU s n ++ cutT (allT 4) s ((n : Int) + 1) := by
  rw [cutsU, cutsU, List.range_succ, List.flatMap_append, List.flatMap_cons, List.flatMap_nil, List.append_nil]
theorem cutT_none {f : Int → List Tr} {s a : Int} (h : s ≤ a) : cutT f s a = [] := by
  unfold cutT
  rw [if_neg]
  simp only [Bool.and_eq_true, decide_eq_true_eq]
  omega
theorem cutsU_end {s : Int} {n : Nat} (h : s ≤ (n : Int) + 1) (m : Nat) : cutsU s (n + m) = cutsU s n := by
  induction m with
  | zero => rfl
  | succ m ih => rw [← Nat.add_assoc, cutsU_succ, ih, cutT_none (by omega), List.append_nil]
theorem allT_parts {s : Int} (h1 : 1 ≤ s) (h2 : s < 16) {n : Nat} (hn : s ≤ (n : Int) + 1) (hm : n ≤ 15) : allT 4 s = leafSet s ++ cutsU s n := by
  have e : cutsU s n = cutsU s 15 := by
    have := cutsU_end hn (15 - n)
    rw [show n + (15 - n) = 15 by omega] at this
    exact this.symm
  rw [e, allT, if_pos ⟨h1, h2⟩, cutsU]
  congr 1
  exact congrArg (fun f => List.flatMap f (List.range 15)) (funext fun k => cutT_congr (fun x => all_small) (by omega) (by omega))
theorem flatT_len {α β : Type} {f : α → List β} {m : Nat} (h : ∀ x, (f x).length ≤ m) : ∀ l : List α, (l.flatMap f).length ≤ l.length * m
  | [] => by simp
  | x :: l => by
    rw [List.flatMap_cons, List.length_append, List.length_cons, Nat.succ_mul]
    have := flatT_len h l
    have := h x
    omega
theorem cutT_len (s a : Int) : (cutT (allT 4) s a).length ≤ 14400 := by
  unfold cutT
  split
  · have h := flatT_len (f := fun x => (allT 4 (s - a)).map fun y => Tr.join x y) (m := 120) (fun x => by rw [List.length_map]; exact all_len _) (allT 4 a)
    have := all_len a
    omega
  · simp
theorem cutsU_len (s : Int) (n : Nat) : (cutsU s n).length ≤ n * 14400 := by
  have h := flatT_len (f := fun (k : Nat) => cutT (allT 4) s ((k : Int) + 1)) (m := 14400) (fun x => cutT_len _ _) (List.range n)
  rw [List.length_range] at h
  exact h
def xsU (X Y : List Tr) (i : Nat) : List Tr := (X.take i).flatMap fun x => Y.map fun y => Tr.join x y
theorem xsU_zero (X Y : List Tr) : xsU X Y 0 = [] := rfl
theorem xsU_succ (X Y : List Tr) {i : Nat} (h : i < X.length) : xsU X Y (i + 1) = xsU X Y i ++ Y.map fun y => Tr.join X[i] y := by
  rw [xsU, xsU, List.take_succ_eq_append_getElem h, List.flatMap_append, List.flatMap_cons, List.flatMap_nil, List.append_nil]
theorem xsU_all (X Y : List Tr) : xsU X Y X.length = X.flatMap fun x => Y.map fun y => Tr.join x y := by rw [xsU, List.take_length]
theorem xsU_len (X Y : List Tr) (hX : X.length ≤ 120) (hY : Y.length ≤ 120) (i : Nat) : (xsU X Y i).length ≤ 14400 := by
  have h := flatT_len (f := fun x => Y.map fun y => Tr.join x y) (m := 120) (fun x => by rw [List.length_map]; exact hY) (X.take i)
  have : (X.take i).length ≤ 120 := by rw [List.length_take]; omega
  unfold xsU
  omega
def ysU (x : Tr) (Y : List Tr) (j : Nat) : List Tr := (Y.take j).map fun y => Tr.join x y
theorem ysU_zero (x : Tr) (Y : List Tr) : ysU x Y 0 = [] := rfl
theorem ysU_succ (x : Tr) (Y : List Tr) {j : Nat} (h : j < Y.length) : ysU x Y (j + 1) = ysU x Y j ++ [.join x Y[j]] := by
  rw [ysU, ysU, List.take_succ_eq_append_getElem h, List.map_append]; rfl
theorem ysU_all (x : Tr) (Y : List Tr) : ysU x Y Y.length = Y.map fun y => Tr.join x y := by rw [ysU, List.take_length]
theorem ysU_len (x : Tr) (Y : List Tr) (j : Nat) : (ysU x Y j).length ≤ Y.length := by rw [ysU, List.length_map, List.length_take]; omega
def rowT (R S : List Tr) : List Tr := R ++ S
theorem rowT_nil (R : List Tr) : rowT R [] = R := List.append_nil R
theorem rowT_len (R S : List Tr) : (rowT R S).length = R.length + S.length := List.length_append
theorem rowT_app (R S T : List Tr) : rowT R (S ++ T) = rowT (rowT R S) T := (List.append_assoc R S T).symm
theorem rowT_one (R : List Tr) (t : Tr) : (rowT R [t]).length = R.length + 1 := List.length_append
def manyI (s : Int) : Int := s.tmod 2 + (s.tdiv 2).tmod 2 + (s.tdiv 4).tmod 2 + (s.tdiv 8).tmod 2
theorem many_one {s : Int} (h1 : 1 ≤ s) (h2 : s < 16) : (manyI s = 1 ∧ ∃ j : Nat, j ≤ 3 ∧ s = 2 ^ j ∧ allT 4 s = [.leaf (j : Int)]) ∨ (manyI s ≠ 1 ∧ leafSet s = []) := by
  have hc : s = 1 ∨ s = 2 ∨ s = 4 ∨ s = 8 ∨ (s ≠ 1 ∧ s ≠ 2 ∧ s ≠ 4 ∧ s ≠ 8) := by omega
  rcases hc with rfl | rfl | rfl | rfl | h
  · exact .inl ⟨by decide, 0, by omega, rfl, by rfl⟩
  · exact .inl ⟨by decide, 1, by omega, rfl, by rfl⟩
  · exact .inl ⟨by decide, 2, by omega, rfl, by rfl⟩
  · exact .inl ⟨by decide, 3, by omega, rfl, by rfl⟩
  · right
    obtain ⟨i, rfl⟩ : ∃ i : Fin 16, s = (i.val : Int) := ⟨⟨s.toNat, by omega⟩, by simp; omega⟩
    refine ⟨?_, List.eq_nil_iff_length_eq_zero.2 ?_⟩
    · clear h1 h2; revert h; revert i; decide +kernel
    · clear h1 h2; revert h; revert i; decide +kernel
theorem half_pow {j k : Nat} (hj : j ≤ 3) (hk : k ≤ j) : if k < j then 1 < (2 : Int) ^ (j - k) ∧ ((2 : Int) ^ (j - k)).tdiv 2 = 2 ^ (j - (k + 1)) else (2 : Int) ^ (j - k) = 1 := by
  obtain ⟨j', rfl⟩ : ∃ i : Fin 4, j = i.val := ⟨⟨j, by omega⟩, rfl⟩
  obtain ⟨k', rfl⟩ : ∃ i : Fin 4, k = i.val := ⟨⟨k, by omega⟩, rfl⟩
  clear hj
  revert hk
  revert j' k'
  decide +kernel
end
section
attribute [local push_cast] encT_mk encT_take encT_len encT_one encTs_pure encT_pure encIs_pure encNs_pure encN_eq encM_eq plus_obj0 plus_set0 piL_is00 piL_is0 piL_isk encIs_one encNs_four
def mkN (m : Mm) (d g : Nat) (t : Tr) (i : Nat) : Bool := decide (rgM m i = g) &&
    (if (m.N.getD i nd0).jn then (match t with | .mk o [x, y] => decide (o = 0) && mkB m d (raM m i) x && mkB m d (rbM m i) y && t.may | _ => false)
     else (match t with | .mk o [] => decide (o = (m.N.getD i nd0).occ) | _ => false))
theorem mkB_any (m : Mm) (d g : Nat) (t : Tr) : mkB m (d + 1) g t = (List.range m.N.length).any (mkN m d g t) := rfl
theorem mkN_leaf (m : Mm) (d g : Nat) (o : Int) (i : Nat) : mkN m d g (.leaf o) i = (decide (rgM m i = g) && (!(m.N.getD i nd0).jn && decide ((m.N.getD i nd0).occ = o))) := by
  unfold mkN Tr.leaf
  cases (m.N.getD i nd0).jn
  · simp [eq_comm]
  · rfl
theorem mkN_join (m : Mm) (d g : Nat) (a b : Tr) (hm : (Tr.join a b).may = true) (i : Nat) : mkN m d g (.join a b) i = (decide (rgM m i = g) && ((m.N.getD i nd0).jn && (mkB m d (raM m i) a && mkB m d (rbM m i) b))) := by
  unfold mkN
  cases (m.N.getD i nd0).jn
  · rfl
  · show (decide (rgM m i = g) && (decide ((0 : Int) = 0) && mkB m d (raM m i) a && mkB m d (rbM m i) b && (Tr.join a b).may)) = _
    rw [hm]
    simp
theorem any_upto {n : Nat} {p : Nat → Bool} {i : Nat} (h : ∀ k, k < i → p k = false) (hi : i < n) : (p i = true → (List.range n).any p = true) ∧ (p i = false → ∀ k, k < i + 1 → p k = false) := by
  refine ⟨fun hp => List.any_eq_true.2 ⟨i, List.mem_range.2 hi, hp⟩, fun hp k hk => ?_⟩
  rcases Nat.lt_succ_iff_lt_or_eq.1 hk with h1 | rfl
  · exact h k h1
  · exact hp
theorem any_none {n : Nat} {p : Nat → Bool} (h : ∀ k, k < n → p k = false) : (List.range n).any p = false := by
  rw [List.any_eq_false]
  intro k hk
  rw [h k (List.mem_range.1 hk)]
  decide
theorem findR_at {m : Mm} (hm : m.may = true) {g : Nat} (hg : g < m.P.length) : Quiet Go.Proofs.Try.prog 64 [encM m, .int (g : Int)] (.int ((ro m g : Nat) : Int)) := by
  have h := findR_ok m (form_small (may_f hm)) (g : Int)
  rwa [Mm.find, findS_at (form_P (may_f hm)) hg] at h
set_option maxHeartbeats 4000000 in
theorem MadeR_leaf (m : Mm) (hm : m.may = true) (d : Nat) (o : Int) (g : Nat) (hg : g < m.P.length) : Quiet Go.Proofs.Try.prog 49 [encM m, .int (g : Int), .agg (encT (.leaf o))] (.bool (mkB m (d + 1) (ro m g) (.leaf o))) := by
  have hf := may_f hm
  have hfg := findR_at hm hg
  have hGl := ((form_iff m).1 hf).2.1
  have hN4 := ((form_iff m).1 hf).2.2.1
  have hall := mkB_any m d (ro m g) (.leaf o)
  have hdef := mkN_leaf m d (ro m g) o
  generalize mkB m (d + 1) (ro m g) (.leaf o) = r at hall
  generalize mkN m d (ro m g) (.leaf o) = p at hall hdef
  rw [Tr.leaf, encT_mk]
  refine quiet_of (rs := #[.tmp 6]) Go.Proofs.Try.func49 rfl rfl rfl mixed rfl rfl fun H hs => ?_
  push_cast -implicitDefEqProofs [eq_self, iff_self, List.map_nil]
  refine loop_at hs (σ := Nat) (fun i => i ≤ m.N.length ∧ ∀ k, k < i → p k = false) (fun i => m.N.length - i)
    (fun i => [(7, .int i), (1, .int (g : Int)), (3, .ptr (H.nxt + 0) 3 0 0), (5, .ptr (H.nxt + 1) 2 0 0)])
    (fun i => [some (.cells 3 [[.sl (m.N.map encN), .sl (m.G.map encI), .sl (m.P.map encI)]] 0), some (.cells 2 [[.int o, .sl []]] 0)]) [some 0, some 1] 0 ⟨by omega, fun k hk => by omega⟩ rfl ?_ ?_ ?_
  · (try push_cast -implicitDefEqProofs [eq_self, iff_self])
  · (try push_cast -implicitDefEqProofs [eq_self, iff_self])
  rintro i ⟨hi2, hno⟩
  by_cases hi : i < m.N.length
  · have hi' := inb_true hi
    have hi0 : (0 ≤ (i : Int)) = True := by simp
    have hiG := inb_true (n := i) (k := m.G.length) (by omega)
    have gG := int_at (p := m.G) (i := i) (by omega)
    have gN := encN_get m.N i hi
    have hgi := gi_lt hf hi
    have hG0 := form_G hf hi
    have eG : m.G.getD i 0 = ((gi m i : Nat) : Int) := by unfold gi; omega
    have hfi := findR_at hm hgi
    rw [eG] at gG
    obtain ⟨hyes, hnx⟩ := any_upto hno hi
    rw [← hall] at hyes
    have hd := hdef i
    rw [show rgM m i = ro m (gi m i) from rfl] at hd
    generalize p i = q at hd hyes hnx
    generalize ro m (gi m i) = a at hfi hd
    generalize ro m g = b at hfg hd
    generalize m.N.getD i nd0 = n at gN hd
    push_cast -implicitDefEqProofs [eq_self, iff_self, hi', List.length_map]
    refine areg_at 11 (by kernel_rfl) (by kernel_rfl) ?_
    push_cast -implicitDefEqProofs [eq_self, iff_self, hi', hi0, hiG, gG, List.length_map]
    refine ahdq hfi ?_
    push_cast -implicitDefEqProofs [eq_self, iff_self]
    refine ahdq hfg ?_
    by_cases he : a = b
    · have he' : ((a : Int) = (b : Int)) = True := eq_true (by omega)
      rw [decide_eq_true he, Bool.true_and] at hd
      cases hj : n.jn with
      | true =>
        rw [hj] at hd
        subst hd
        push_cast -implicitDefEqProofs [eq_self, iff_self, he', hi', hi0, gN, hj, List.length_map, List.length_nil]
        repeat (refine gskip ?_; push_cast -implicitDefEqProofs [eq_self, iff_self, he', hi', hi0, gN, hj, List.length_map, List.length_nil])
        rw [wrap64 (by omega) (by omega)]
        refine next_at [some 0, some 1] (i + 1) ⟨by omega, hnx rfl⟩ (by omega) rfl ?_ ?_
        · (try push_cast -implicitDefEqProofs [eq_self, iff_self])
        · (try push_cast -implicitDefEqProofs [eq_self, iff_self])
      | false =>
        rw [hj, Bool.not_false, Bool.true_and] at hd
        by_cases ho : n.occ = o
        · have ho' : (n.occ = o) = True := eq_true ho
          rw [decide_eq_true ho] at hd
          rw [hyes hd]
          push_cast -implicitDefEqProofs [eq_self, iff_self, he', hi', hi0, gN, hj, ho', List.length_map, List.length_nil]
        · have ho' : (n.occ = o) = False := eq_false ho
          rw [decide_eq_false ho] at hd
          subst hd
          push_cast -implicitDefEqProofs [eq_self, iff_self, he', hi', hi0, gN, hj, ho', List.length_map, List.length_nil]
          repeat (refine gskip ?_; push_cast -implicitDefEqProofs [eq_self, iff_self, he', hi', hi0, gN, hj, ho', List.length_map, List.length_nil])
          rw [wrap64 (by omega) (by omega)]
          refine next_at [some 0, some 1] (i + 1) ⟨by omega, hnx rfl⟩ (by omega) rfl ?_ ?_
          · (try push_cast -implicitDefEqProofs [eq_self, iff_self])
          · (try push_cast -implicitDefEqProofs [eq_self, iff_self])
    · have he' : ((a : Int) = (b : Int)) = False := eq_false (by omega)
      rw [decide_eq_false he, Bool.false_and] at hd
      subst hd
      push_cast -implicitDefEqProofs [eq_self, iff_self, he']
      rw [wrap64 (by omega) (by omega)]
      refine next_at [some 0, some 1] (i + 1) ⟨by omega, hnx rfl⟩ (by omega) rfl ?_ ?_
      · (try push_cast -implicitDefEqProofs [eq_self, iff_self])
      · (try push_cast -implicitDefEqProofs [eq_self, iff_self])
  have hi' : ((i : Int) < m.N.length) = False := eq_false (by omega)
  have hr : r = false := by rw [hall]; exact any_none fun k hk => hno k (by omega)
  rw [hr]
  push_cast -implicitDefEqProofs [eq_self, iff_self, hi', List.length_map]
end
section
attribute [local push_cast] encT_mk encT_take encT_len encT_one encTs_pure encT_pure encIs_pure encNs_pure encN_eq encM_eq plus_obj0 plus_set0 piL_is00 piL_is0 piL_isk encIs_one encNs_four
set_option maxHeartbeats 4000000 in
theorem MadeR_join (m : Mm) (hm : m.may = true) (d : Nat) (t u : Tr) (hmay : (Tr.join t u).may = true)
    (iht : ∀ g : Nat, g < m.P.length → Quiet Go.Proofs.Try.prog 49 [encM m, .int (g : Int), .agg (encT t)] (.bool (mkB m d (ro m g) t)))
    (ihu : ∀ g : Nat, g < m.P.length → Quiet Go.Proofs.Try.prog 49 [encM m, .int (g : Int), .agg (encT u)] (.bool (mkB m d (ro m g) u)))
    (g : Nat) (hg : g < m.P.length) : Quiet Go.Proofs.Try.prog 49 [encM m, .int (g : Int), .agg (encT (.join t u))] (.bool (mkB m (d + 1) (ro m g) (.join t u))) := by
  have hf := may_f hm
  have hfg := findR_at hm hg
  have hGl := ((form_iff m).1 hf).2.1
  have hN4 := ((form_iff m).1 hf).2.2.1
  have hall := mkB_any m d (ro m g) (.join t u)
  have hdef := mkN_join m d (ro m g) t u hmay
  generalize mkB m (d + 1) (ro m g) (.join t u) = r at hall
  generalize mkN m d (ro m g) (.join t u) = p at hall hdef
  rw [Tr.join, encT_mk]
  refine quiet_of (rs := #[.tmp 6]) Go.Proofs.Try.func49 rfl rfl rfl mixed rfl rfl fun H hs => ?_
  push_cast -implicitDefEqProofs [eq_self, iff_self, List.map_cons, List.map_nil]
  refine loop_at hs (σ := Nat) (fun i => i ≤ m.N.length ∧ ∀ k, k < i → p k = false) (fun i => m.N.length - i)
    (fun i => [(7, .int i), (1, .int (g : Int)), (3, .ptr (H.nxt + 0) 3 0 0), (5, .ptr (H.nxt + 1) 2 0 0)])
    (fun i => [some (.cells 3 [[.sl (m.N.map encN), .sl (m.G.map encI), .sl (m.P.map encI)]] 0), some (.cells 2 [[.int 0, .sl [encT t, encT u]]] 0)]) [some 0, some 1] 0 ⟨by omega, fun k hk => by omega⟩ rfl ?_ ?_ ?_
  · (try push_cast -implicitDefEqProofs [eq_self, iff_self])
  · (try push_cast -implicitDefEqProofs [eq_self, iff_self, encT_pure, encT_len])
  rintro i ⟨hi2, hno⟩
  by_cases hi : i < m.N.length
  · have hi' := inb_true hi
    have hi0 : (0 ≤ (i : Int)) = True := by simp
    have hiG := inb_true (n := i) (k := m.G.length) (by omega)
    have gG := int_at (p := m.G) (i := i) (by omega)
    have gN := encN_get m.N i hi
    have hgi := gi_lt hf hi
    have hG0 := form_G hf hi
    have eG : m.G.getD i 0 = ((gi m i : Nat) : Int) := by unfold gi; omega
    have hfi := findR_at hm hgi
    rw [eG] at gG
    obtain ⟨hyes, hnx⟩ := any_upto hno hi
    rw [← hall] at hyes
    have hd := hdef i
    have hjl : (m.N.getD i nd0).jn = true → (m.N.getD i nd0).a.toNat < m.P.length ∧ (m.N.getD i nd0).b.toNat < m.P.length ∧ 0 ≤ (m.N.getD i nd0).a ∧ 0 ≤ (m.N.getD i nd0).b := fun hj => by
      obtain ⟨_, h1, h2⟩ := node_join (form_N hf hi) hj
      omega
    rw [show rgM m i = ro m (gi m i) from rfl, show raM m i = ro m (m.N.getD i nd0).a.toNat from rfl, show rbM m i = ro m (m.N.getD i nd0).b.toNat from rfl] at hd
    generalize p i = q at hd hyes hnx
    generalize ro m (gi m i) = a at hfi hd
    generalize hb : ro m g = b at hfg hd
    generalize m.N.getD i nd0 = n at gN hd hjl
    push_cast -implicitDefEqProofs [eq_self, iff_self, hi', List.length_map]
    refine areg_at 11 (by kernel_rfl) (by kernel_rfl) ?_
    push_cast -implicitDefEqProofs [eq_self, iff_self, hi', hi0, hiG, gG, List.length_map]
    refine ahdq hfi ?_
    push_cast -implicitDefEqProofs [eq_self, iff_self]
    refine ahdq hfg ?_
    by_cases he : a = b
    case neg =>
      have he' : ((a : Int) = (b : Int)) = False := eq_false (by omega)
      rw [decide_eq_false he, Bool.false_and] at hd
      subst hd
      push_cast -implicitDefEqProofs [eq_self, iff_self, he']
      rw [wrap64 (by omega) (by omega)]
      refine next_at [some 0, some 1] (i + 1) ⟨by omega, hnx rfl⟩ (by omega) rfl ?_ ?_
      · (try push_cast -implicitDefEqProofs [eq_self, iff_self])
      · (try push_cast -implicitDefEqProofs [eq_self, iff_self, encT_pure, encT_len])
    have he' : ((a : Int) = (b : Int)) = True := eq_true (by omega)
    rw [decide_eq_true he, Bool.true_and] at hd
    cases hj : n.jn with
    | false =>
      rw [hj, Bool.false_and] at hd
      subst hd
      push_cast -implicitDefEqProofs [eq_self, iff_self, he', hi', hi0, gN, hj, List.length_map, List.length_cons, List.length_nil]
      repeat (refine gskip ?_; push_cast -implicitDefEqProofs [eq_self, iff_self, he', hi', hi0, gN, hj, List.length_map, List.length_cons, List.length_nil])
      rw [wrap64 (by omega) (by omega)]
      refine next_at [some 0, some 1] (i + 1) ⟨by omega, hnx rfl⟩ (by omega) rfl ?_ ?_
      · (try push_cast -implicitDefEqProofs [eq_self, iff_self])
      · (try push_cast -implicitDefEqProofs [eq_self, iff_self, encT_pure, encT_len])
    | true =>
      obtain ⟨ja, jb, ja0, jb0⟩ := hjl hj
      rw [hj, Bool.true_and] at hd
      have ht := iht n.a.toNat ja
      have hu := ihu n.b.toNat jb
      rw [Int.toNat_of_nonneg ja0] at ht
      rw [Int.toNat_of_nonneg jb0] at hu
      generalize mkB m d (ro m n.a.toNat) t = x at hd ht
      generalize mkB m d (ro m n.b.toNat) u = y at hd hu
      push_cast -implicitDefEqProofs [eq_self, iff_self, he', hi', hi0, gN, hj, List.length_map, List.length_cons, List.length_nil]
      repeat (refine gskip ?_; push_cast -implicitDefEqProofs [eq_self, iff_self, he', hi', hi0, gN, hj, List.length_map, List.length_cons, List.length_nil])
      refine areg_at 9 (by kernel_rfl) (by kernel_rfl) ?_
      push_cast -implicitDefEqProofs [eq_self, iff_self, encT_pure, encT_len, encT_one, encT_take]
      refine ahdq ht ?_
      cases x with
      | false =>
        rw [Bool.false_and] at hd
        subst hd
        push_cast -implicitDefEqProofs [eq_self, iff_self]
        rw [wrap64 (by omega) (by omega)]
        refine next_at [some 0, some 1] (i + 1) ⟨by omega, hnx rfl⟩ (by omega) rfl ?_ ?_
        · (try push_cast -implicitDefEqProofs [eq_self, iff_self])
        · (try push_cast -implicitDefEqProofs [eq_self, iff_self, encT_pure, encT_len])
      | true =>
        rw [Bool.true_and] at hd
        push_cast -implicitDefEqProofs [eq_self, iff_self]
        refine areg_at 9 (by kernel_rfl) (by kernel_rfl) ?_
        push_cast -implicitDefEqProofs [eq_self, iff_self, encT_pure, encT_len, encT_one, encT_take]
        refine ahdq hu ?_
        cases y with
        | false =>
          subst hd
          push_cast -implicitDefEqProofs [eq_self, iff_self]
          rw [wrap64 (by omega) (by omega)]
          refine next_at [some 0, some 1] (i + 1) ⟨by omega, hnx rfl⟩ (by omega) rfl ?_ ?_
          · (try push_cast -implicitDefEqProofs [eq_self, iff_self])
          · (try push_cast -implicitDefEqProofs [eq_self, iff_self, encT_pure, encT_len])
        | true =>
          rw [hyes hd]
          push_cast -implicitDefEqProofs [eq_self, iff_self]
  have hi' : ((i : Int) < m.N.length) = False := eq_false (by omega)
  have hr : r = false := by rw [hall]; exact any_none fun k hk => hno k (by omega)
  rw [hr]
  push_cast -implicitDefEqProofs [eq_self, iff_self, hi', List.length_map]
theorem MadeR_ok (m : Mm) (hm : m.may = true) : ∀ (d : Nat) (t : Tr), d ≤ 4 → (setT d t).2 = true → ∀ g : Nat, g < m.P.length → Quiet Go.Proofs.Try.prog 49 [encM m, .int (g : Int), .agg (encT t)] (.bool (mkB m d (ro m g) t))
  | 0, _, _, h => by simp [setT] at h
  | d + 1, t, hd, h => by
    rcases tr_form h with ⟨o, rfl⟩ | ⟨a, b, rfl⟩
    · exact MadeR_leaf m hm d o
    · obtain ⟨ha, hb, _⟩ := setT_join h
      exact MadeR_join m hm d a b (setT_to4 hd h) (MadeR_ok m hm d a (by omega) ha) (MadeR_ok m hm d b (by omega) hb)
end
section
attribute [local push_cast] encT_mk encT_take encT_len encT_one encTs_pure encT_pure
theorem dg_byte (o : Int) (h0 : 0 ≤ o) (h1 : o < 4) : ByteArray.empty.push (UInt8.ofNat (IntKind.wrap .u8 (IntKind.wrap .i64 (48 + o))).toNat) = dgT o := by
  have hc : o = 0 ∨ o = 1 ∨ o = 2 ∨ o = 3 := by omega
  rcases hc with rfl | rfl | rfl | rfl <;> decide +kernel
theorem txt_size : ∀ (d : Nat) (t : Tr), d ≤ 4 → (setT d t).2 = true → (txt d t).size + 2 ≤ 3 * 2 ^ d
  | 0, _, _, h => by simp [setT] at h
  | d + 1, t, hd, h => by
    have hp : 1 ≤ 2 ^ d := Nat.one_le_two_pow
    rcases tr_form h with ⟨o, rfl⟩ | ⟨a, b, rfl⟩
    · rw [Tr.leaf, setT_nil] at h
      simp only [Bool.and_eq_true, decide_eq_true_eq] at h
      show (dgT o).size + 2 ≤ _
      rw [dgT_size o h.1 h.2, Nat.pow_succ]
      omega
    · obtain ⟨ha, hb, _⟩ := setT_join h
      have a2 := txt_size d a (by omega) ha
      have b2 := txt_size d b (by omega) hb
      show (jnT _ _).size + 2 ≤ _
      rw [jnT_size, Nat.pow_succ]
      omega
set_option maxHeartbeats 2000000 in
theorem txtR_ok : ∀ (d : Nat) (t : Tr), d ≤ 4 → (setT d t).2 = true → Quiet Go.Proofs.Try.prog 51 [.agg (encT t)] (.lit (.string (txt d t)))
  | 0, _, _, h => by simp [setT] at h
  | d + 1, t, hd, h => by
    have hmay : t.may = true := setT_to4 (d := d + 1) hd h
    have hM := MayTR_ok t (may_ok hmay)
    rw [hmay] at hM
    rcases tr_form h with ⟨o, rfl⟩ | ⟨a, b, rfl⟩
    · rw [Tr.leaf, setT_nil] at h
      simp only [Bool.and_eq_true, decide_eq_true_eq] at h
      have hb := dg_byte o h.1 h.2
      rw [show txt (d + 1) (Tr.leaf o) = dgT o from rfl, ← hb]
      rw [Tr.leaf, encT_mk] at hM ⊢
      refine quiet_of (rs := #[.tmp 2]) Go.Proofs.Try.func51 rfl rfl rfl mixed rfl rfl fun H hs => ?_
      push_cast -implicitDefEqProofs [eq_self, iff_self, List.map_nil, List.length_nil]
      refine callq hM ?_
      push_cast -implicitDefEqProofs [eq_self, iff_self, List.map_nil, List.length_nil]
    · obtain ⟨ha, hb, _⟩ := setT_join h
      have h1 := txtR_ok d a (by omega) ha
      have h2 := txtR_ok d b (by omega) hb
      have a2 := txt_size d a (by omega) ha
      have b2 := txt_size d b (by omega) hb
      have hp16 : 2 ^ d ≤ 16 := Nat.le_trans (Nat.pow_le_pow_right (by decide) (show d ≤ 4 by omega)) (by decide)
      rw [show txt (d + 1) (Tr.join a b) = jnT (txt d a) (txt d b) from rfl]
      generalize txt d a = x at *
      generalize txt d b = y at *
      rw [Tr.join, encT_mk] at hM ⊢
      refine quiet_of (rs := #[.tmp 2]) Go.Proofs.Try.func51 rfl rfl rfl mixed rfl rfl fun H hs => ?_
      push_cast -implicitDefEqProofs [eq_self, iff_self, List.map_cons, List.map_nil, List.length_cons, List.length_nil]
      refine callq hM ?_
      push_cast -implicitDefEqProofs [eq_self, iff_self, List.map_cons, List.map_nil, List.length_cons, List.length_nil]
      refine areg_at 14 (by kernel_rfl) (by kernel_rfl) ?_
      push_cast -implicitDefEqProofs [eq_self, iff_self, encT_pure, encT_len, encT_one, encT_take]
      refine ahdq h1 ?_
      push_cast -implicitDefEqProofs [eq_self, iff_self, encT_pure, encT_len, encT_one, encT_take, astr]
      refine ⟨?_, ahdq h2 ?_⟩
      · have : (⟨#[40]⟩ : ByteArray).size = 1 := rfl
        omega
      push_cast -implicitDefEqProofs [eq_self, iff_self, encT_pure, encT_len, encT_one, encT_take, astr, jnT, ByteArray.size_append]
      have : (⟨#[40]⟩ : ByteArray).size = 1 := rfl
      have : (⟨#[41]⟩ : ByteArray).size = 1 := rfl
      omega
end
section
attribute [local push_cast] encT_mk encT_take encT_len encT_one encTs_pure encT_pure
theorem lt_pre {p a b : List UInt8} : p ++ a < p ++ b ↔ a < b := by
  induction p with
  | nil => exact Iff.rfl
  | cons x p ih =>
    rw [List.cons_append, List.cons_append, List.cons_lt_cons_iff]
    constructor
    · rintro (h | ⟨_, h⟩)
      · exact absurd h (UInt8.lt_irrefl x)
      · exact ih.1 h
    · exact fun h => .inr ⟨rfl, ih.2 h⟩
theorem lt_cut {u v : List UInt8} {i : Nat} (h : u.take i = v.take i) : u < v ↔ u.drop i < v.drop i := by
  have e1 := (List.take_append_drop i u).symm
  have e2 := (List.take_append_drop i v).symm
  rw [← h] at e2
  conv => lhs; rw [e1, e2]
  exact lt_pre
theorem byte_at {s : ByteArray} {i : Nat} (h : i < s.size) : (s[i]?.getD 0) = s.data.toList.getD i 0 := by
  have h' : i < s.data.toList.length := by simpa using h
  rw [getElem?_pos s i h, List.getD_eq_getElem?_getD, List.getElem?_eq_getElem h', Option.getD_some, Option.getD_some]
  rfl
theorem u8_lt {x y : UInt8} : x < y ↔ x.toNat < y.toNat := Iff.rfl
theorem u8_eq {x y : UInt8} : ((x.toNat : Int) = (y.toNat : Int)) ↔ x = y := by
  constructor
  · intro h; exact UInt8.toNat_inj.1 (by exact_mod_cast h)
  · rintro rfl; rfl
set_option maxHeartbeats 2000000 in
theorem Less_ok (a b : ByteArray) (ha : a.size ≤ 1000) (hb : b.size ≤ 1000) : Quiet Go.Proofs.Try.prog 50 [.lit (.string a), .lit (.string b)] (.bool (decide (a.data.toList < b.data.toList))) := by
  have hal : a.data.toList.length = a.size := by simp
  have hbl : b.data.toList.length = b.size := by simp
  refine quiet_of (rs := #[.tmp 4]) Go.Proofs.Try.func50 rfl rfl rfl mixed rfl rfl fun H hs => ?_
  generalize hr : decide (a.data.toList < b.data.toList) = r
  push_cast -implicitDefEqProofs [eq_self, iff_self]
  refine loop_at hs (σ := Nat) (fun i => i ≤ a.size ∧ i ≤ b.size ∧ a.data.toList.take i = b.data.toList.take i) (fun i => a.size - i)
    (fun i => [(5, .int i), (0, .lit (.string a)), (1, .lit (.string b))]) (fun i => []) [] 0 ⟨by omega, by omega, rfl⟩ rfl ?_ ?_ ?_
  · (try push_cast -implicitDefEqProofs [eq_self, iff_self])
  · (try push_cast -implicitDefEqProofs [eq_self, iff_self])
  rintro i ⟨h1, h2, h3⟩
  have hcut := lt_cut h3
  by_cases hia : i < a.size
  · have hia' : ((i : Int) < (a.size : Int)) = True := by simp; omega
    by_cases hib : i < b.size
    · have hib' : ((i : Int) < (b.size : Int)) = True := by simp; omega
      have hi0 : (0 ≤ (i : Int)) = True := by simp
      have ga := byte_at hia
      have gb := byte_at hib
      have ea : a.data.toList.drop i = a.data.toList.getD i 0 :: a.data.toList.drop (i + 1) := by
        rw [List.getD_eq_getElem?_getD, List.getElem?_eq_getElem (by omega)]; exact List.drop_eq_getElem_cons (by omega)
      have eb : b.data.toList.drop i = b.data.toList.getD i 0 :: b.data.toList.drop (i + 1) := by
        rw [List.getD_eq_getElem?_getD, List.getElem?_eq_getElem (by omega)]; exact List.drop_eq_getElem_cons (by omega)
      have ta : a.data.toList.take (i + 1) = a.data.toList.take i ++ [a.data.toList.getD i 0] := by
        rw [List.take_add_one, List.getD_eq_getElem?_getD, List.getElem?_eq_getElem (by omega)]; rfl
      have tb_ : b.data.toList.take (i + 1) = b.data.toList.take i ++ [b.data.toList.getD i 0] := by
        rw [List.take_add_one, List.getD_eq_getElem?_getD, List.getElem?_eq_getElem (by omega)]; rfl
      rw [ea, eb, List.cons_lt_cons_iff] at hcut
      generalize a.data.toList.getD i 0 = x at ga hcut ta
      generalize b.data.toList.getD i 0 = y at gb hcut tb_
      have hxy := u8_eq (x := x) (y := y)
      push_cast -implicitDefEqProofs [eq_self, iff_self, hia', hib']
      refine areg_at 7 (by kernel_rfl) (by kernel_rfl) ?_
      by_cases he : x = y
      · subst he
        push_cast -implicitDefEqProofs [eq_self, iff_self, hia', hib', hi0, ga, gb]
        rw [wrap64 (by omega) (by omega)]
        refine next_at [] (i + 1) ⟨by omega, by omega, by rw [ta, tb_, h3]⟩ (by omega) rfl ?_ ?_
        · (try push_cast -implicitDefEqProofs [eq_self, iff_self])
        · (try push_cast -implicitDefEqProofs [eq_self, iff_self])
      · have he' : ((x.toNat : Int) = (y.toNat : Int)) = False := eq_false (fun h => he (hxy.1 h))
        have hv : r = decide ((x.toNat : Int) < (y.toNat : Int)) := by
          rw [← hr]
          refine decide_eq_decide.2 (hcut.trans ?_)
          constructor
          · rintro (h | ⟨h, _⟩)
            · have := u8_lt.1 h; omega
            · exact absurd h he
          · intro h; exact .inl (u8_lt.2 (by omega))
        rw [hv]
        push_cast -implicitDefEqProofs [eq_self, iff_self, hia', hib', hi0, ga, gb, he']
        refine areg_at 8 (by kernel_rfl) (by kernel_rfl) ?_
        push_cast -implicitDefEqProofs [eq_self, iff_self, hia', hib', hi0, ga, gb, he']
    · have hib' : ((i : Int) < (b.size : Int)) = False := by simp; omega
      obtain rfl : i = b.size := by omega
      have hv : r = decide ((a.size : Int) < (b.size : Int)) := by
        rw [← hr, decide_eq_decide, hcut, show b.data.toList.drop b.size = [] by rw [← hbl]; exact List.drop_length]
        constructor
        · intro h; exact absurd h (List.not_lt_nil _)
        · intro h; omega
      rw [hv]
      push_cast -implicitDefEqProofs [eq_self, iff_self, hia', hib']
  · have hia' : ((i : Int) < (a.size : Int)) = False := by simp; omega
    obtain rfl : i = a.size := by omega
    have hv : r = decide ((a.size : Int) < (b.size : Int)) := by
      rw [← hr, decide_eq_decide, hcut, show a.data.toList.drop a.size = [] by rw [← hal]; exact List.drop_length]
      by_cases hlt : a.size < b.size
      · have : b.data.toList.drop a.size = b.data.toList[a.size]'(by omega) :: b.data.toList.drop (a.size + 1) := List.drop_eq_getElem_cons (by omega)
        rw [this]
        exact ⟨fun _ => by omega, fun _ => List.nil_lt_cons _ _⟩
      · rw [List.drop_eq_nil_of_le (by omega)]
        exact ⟨fun h => absurd h (List.not_lt_nil _), fun h => by omega⟩
    rw [hv]
    push_cast -implicitDefEqProofs [eq_self, iff_self, hia']
    repeat (refine gskip ?_; push_cast -implicitDefEqProofs [eq_self, iff_self, hia'])
end
section
def posT (t : Tr) (out : List Tr) : Nat → Nat
  | 0 => 0
  | k + 1 => if tb t < tb (out.getD k trO) then posT t out k else k + 1
theorem posT_le (t : Tr) (out : List Tr) : ∀ k, posT t out k ≤ k
  | 0 => Nat.le_refl _
  | k + 1 => by
    have := posT_le t out k
    rw [posT]
    split <;> omega
theorem posT_gt (t : Tr) (out : List Tr) : ∀ n k, posT t out n ≤ k → k < n → tb t < tb (out.getD k trO)
  | 0, k, _, h => by omega
  | n + 1, k, h1, h2 => by
    rw [posT] at h1
    split at h1
    · rename_i h
      by_cases hk : k = n
      · rw [hk]; exact h
      · exact posT_gt t out n k h1 (by omega)
    · omega
theorem posT_pred (t : Tr) (out : List Tr) : ∀ n k, posT t out n = k + 1 → ¬ tb t < tb (out.getD k trO)
  | 0, k, h => by cases h
  | n + 1, k, h => by
    rw [posT] at h
    split at h
    · exact posT_pred t out n k h
    · rename_i h1
      obtain rfl : n = k := by omega
      exact h1
def insT (t : Tr) (out : List Tr) : List Tr := (out.take (posT t out out.length) ++ [t]) ++ out.drop (posT t out out.length)
theorem insT_perm (t : Tr) (out : List Tr) : (insT t out).Perm (out ++ [t]) := by
  have h := List.take_append_drop (posT t out out.length) out
  have h2 : (insT t out).Perm ((out.take (posT t out out.length) ++ out.drop (posT t out out.length)) ++ [t]) := by
    unfold insT
    rw [List.append_assoc, List.append_assoc]
    exact (List.perm_append_comm (l₁ := [t])).append_left _
  rwa [h] at h2
def SortT (out : List Tr) : Prop := out.Pairwise fun a b => tb a ≤ tb b
theorem getD_of {out : List Tr} {k : Nat} (h : k < out.length) : out.getD k trO = out[k] := by
  rw [List.getD_eq_getElem?_getD, List.getElem?_eq_getElem h]; rfl
theorem insT_sort {t : Tr} {out : List Tr} (h : SortT out) : SortT (insT t out) := by
  have hle := posT_le t out out.length
  have hgt := posT_gt t out out.length
  have hpr := posT_pred t out out.length
  unfold insT
  generalize posT t out out.length = n at *
  have hp := List.pairwise_iff_getElem.1 h
  have hbig : ∀ a ∈ out.drop n, tb t ≤ tb a := fun a ha => by
    obtain ⟨i, hi, rfl⟩ := List.mem_iff_getElem.1 ha
    rw [List.length_drop] at hi
    rw [List.getElem_drop]
    have := hgt (n + i) (by omega) (by omega)
    rw [getD_of (by omega)] at this
    exact List.le_of_lt this
  have hsmall : ∀ a ∈ out.take n, tb a ≤ tb t := fun a ha => by
    obtain ⟨i, hi, rfl⟩ := List.mem_iff_getElem.1 ha
    rw [List.length_take] at hi
    rw [List.getElem_take]
    obtain ⟨k, rfl⟩ : ∃ k, n = k + 1 := ⟨n - 1, by omega⟩
    have h1 := hpr k rfl
    rw [getD_of (by omega)] at h1
    have h2 : tb out[k] ≤ tb t := List.not_lt.1 h1
    by_cases hik : i = k
    · subst hik; exact h2
    · exact List.le_trans (hp i k (by omega) (by omega) (by omega)) h2
  unfold SortT
  rw [List.pairwise_append, List.pairwise_append]
  refine ⟨⟨h.sublist (List.take_sublist _ _), List.pairwise_singleton _ _, fun a ha b hb => ?_⟩, h.sublist (List.drop_sublist _ _), fun a ha b hb => ?_⟩
  · obtain rfl := List.mem_singleton.1 hb
    exact hsmall a ha
  · rcases List.mem_append.1 ha with ha | ha
    · exact List.le_trans (hsmall a ha) (hbig b hb)
    · obtain rfl := List.mem_singleton.1 ha
      exact hbig b hb
def stepI (p : Tr → Bool) (out : List Tr) (t : Tr) : List Tr := if p t then insT t out else out
def allI (p : Tr → Bool) (out L : List Tr) : List Tr := L.foldl (stepI p) out
theorem allI_nil (p : Tr → Bool) (out : List Tr) : allI p out [] = out := rfl
theorem allI_snoc (p : Tr → Bool) (out L : List Tr) (t : Tr) : allI p out (L ++ [t]) = stepI p (allI p out L) t := by
  rw [allI, List.foldl_append]; rfl
theorem allI_app (p : Tr → Bool) (out L M : List Tr) : allI p out (L ++ M) = allI p (allI p out L) M := List.foldl_append
theorem allI_ok (p : Tr → Bool) : ∀ (L out : List Tr), SortT out → SortT (allI p out L) ∧ (allI p out L).Perm (out ++ L.filter p)
  | [], out, h => ⟨h, by rw [List.filter_nil, List.append_nil]; exact List.Perm.refl _⟩
  | t :: L, out, h => by
    show SortT (allI p (stepI p out t) L) ∧ (allI p (stepI p out t) L).Perm _
    rw [List.filter_cons]
    unfold stepI
    cases hp : p t with
    | false => exact allI_ok p L out h
    | true =>
      rw [if_pos rfl, if_pos rfl]
      obtain ⟨h1, h2⟩ := allI_ok p L (insT t out) (insT_sort h)
      refine ⟨h1, h2.trans ?_⟩
      have := (insT_perm t out).append_right (L.filter p)
      rwa [List.append_assoc] at this
theorem allI_len (p : Tr → Bool) (L out : List Tr) (h : SortT out) : (allI p out L).length ≤ out.length + L.length := by
  have h1 := (allI_ok p L out h).2.length_eq
  have h2 := List.length_filter_le p L
  rw [List.length_append] at h1
  omega
theorem treesM_I {m : Mm} {g : Nat} (hm : m.may = true ∧ g < m.P.length) : treesM m g = allI (mkB m 4 (rootN m.P g)) [] allTs := by
  obtain ⟨h1, h2⟩ := allI_ok (mkB m 4 (rootN m.P g)) allTs [] List.Pairwise.nil
  rw [List.nil_append] at h2
  rw [treesM_B hm]
  have hall : ∀ t ∈ allTs.filter (mkB m 4 (rootN m.P g)), t.may = true := fun t ht => allTs_may (List.mem_filter.1 ht).1
  refine map_tb_inj (fun t ht => hall t (sortM_mem.1 ht)) (fun t ht => hall t (h2.mem_iff.1 ht)) ?_
  rw [sortM_map]
  refine List.Perm.eq_of_pairwise (fun a b _ _ h1 h2 => List.le_antisymm h1 h2) (sortB_pw _) (List.pairwise_map.2 h1) ((List.mergeSort_perm _ _).trans (h2.symm.map _))
def setsI (p : Tr → Bool) (s : Nat) : List Tr := allI p [] ((List.range s).flatMap fun (s : Nat) => allT 4 (s : Int))
theorem setsI_one (p : Tr → Bool) : setsI p 1 = [] := by
  have : allT 4 ((0 : Nat) : Int) = [] := by decide +kernel
  show allI p [] (List.flatMap _ [0]) = []
  rw [List.flatMap_cons, List.flatMap_nil, this]
  rfl
theorem setsI_succ (p : Tr → Bool) (s : Nat) : setsI p (s + 1) = allI p (setsI p s) (allT 4 (s : Int)) := by
  rw [setsI, List.range_succ, List.flatMap_append, allI_app, List.flatMap_singleton]; rfl
theorem setsI_all (p : Tr → Bool) : setsI p 16 = allI p [] allTs := rfl
theorem setsI_sort (p : Tr → Bool) (s : Nat) : SortT (setsI p s) := (allI_ok p _ [] List.Pairwise.nil).1
theorem allT_len4 : ∀ a : Fin 16, (allT 4 (a.val : Int)).length ≤ 120 := by decide +kernel
theorem setsI_len (p : Tr → Bool) : ∀ s, s ≤ 16 → (setsI p s).length ≤ 120 * s
  | 0, _ => Nat.zero_le _
  | s + 1, h => by
    have h1 := setsI_len p s (by omega)
    have h2 := allI_len p (allT 4 (s : Int)) (setsI p s) (setsI_sort p s)
    have h3 := allT_len4 ⟨s, by omega⟩
    rw [setsI_succ]
    dsimp only at h3
    omega
end
section
attribute [local push_cast] encT_mk encT_take encT_len encT_one encTs_pure encT_pure
theorem sub16 {a s : Int} (a0 : 1 ≤ a) (a1 : a ≤ 15) (s0 : 1 ≤ s) (s1 : s < 16) (h : band .i64 a s = a) : a ≤ s := by
  obtain ⟨i, rfl⟩ : ∃ i : Fin 16, a = (i.val : Int) := ⟨⟨a.toNat, by omega⟩, by simp; omega⟩
  obtain ⟨j, rfl⟩ : ∃ j : Fin 16, s = (j.val : Int) := ⟨⟨s.toNat, by omega⟩, by simp; omega⟩
  clear a0 a1 s0 s1
  revert i j
  decide +kernel
theorem many_ok (s : Int) (h1 : 1 ≤ s) (h2 : s < 16) : Quiet Go.Proofs.Try.prog 80 [.int s] (.int (manyI s)) := by
  refine quiet_of (rs := #[.tmp 2]) Go.Proofs.Try.func80 rfl rfl rfl mixed rfl rfl fun H hs => ?_
  simp -implicitDefEqProofs only [push_cast, Nat.reduceAdd, Nat.reduceSub, Nat.reduceMul, Nat.reduceLT, Nat.reduceLeDiff, Nat.reduceEqDiff, Nat.reduceBEq, reduceCtorEq, reduceIte, Int.reduceLE, Int.reduceLT, Int.reduceNeg, Int.reduceToNat]
  refine ⟨by decide, by decide, by decide, by decide, by decide, by decide, by decide, ?_⟩
  obtain ⟨i, rfl⟩ : ∃ i : Fin 16, s = (i.val : Int) := ⟨⟨s.toNat, by omega⟩, by simp; omega⟩
  clear h1 h2
  revert i
  decide +kernel
set_option maxHeartbeats 8000000 in
theorem AllTR_one (s : Int) (h1 : 1 ≤ s) (h2 : s < 16) (hm : manyI s = 1) (j : Nat) (hj : j ≤ 3) (hs : s = 2 ^ j) (ha : allT 4 s = [.leaf (j : Int)]) : Quiet Go.Proofs.Try.prog 48 [.int s] (.sl ((allT 4 s).map encT)) := by
  have h1' : (s < 1) = False := by simp; omega
  have h2' : (15 < s) = False := by simp; omega
  have hM := many_ok s h1 h2
  rw [hm] at hM
  rw [ha]
  refine quiet_of (rs := #[.tmp 2]) Go.Proofs.Try.func48 rfl rfl rfl mixed rfl rfl fun H hh => ?_
  simp -implicitDefEqProofs only [push_cast, Nat.reduceAdd, Nat.reduceSub, Nat.reduceMul, Nat.reduceLT, Nat.reduceLeDiff, Nat.reduceEqDiff, Nat.reduceBEq, reduceCtorEq, reduceIte, Int.reduceLE, Int.reduceLT, Int.reduceNeg, Int.reduceToNat, h1', h2']
  refine callq hM ?_
  simp -implicitDefEqProofs only [push_cast, Nat.reduceAdd, Nat.reduceSub, Nat.reduceMul, Nat.reduceLT, Nat.reduceLeDiff, Nat.reduceEqDiff, Nat.reduceBEq, reduceCtorEq, reduceIte, Int.reduceLE, Int.reduceLT, Int.reduceNeg, Int.reduceToNat, Int.reduceEq]
  have hpow : (2 : Int) ^ j = 2 ^ (j - 0) := rfl
  rw [hs, hpow]
  refine loop_at hh (σ := Nat) (fun k => k ≤ j) (fun k => j - k)
    (fun k => [(4, .int (2 ^ (j - k))), (3, .int k)]) (fun k => []) [] 0 (by omega) rfl ?_ ?_ ?_
  · (try simp -implicitDefEqProofs only [push_cast, Nat.reduceAdd, Nat.reduceSub, Nat.reduceMul, Nat.reduceLT, Nat.reduceLeDiff, Nat.reduceEqDiff, Nat.reduceBEq, reduceCtorEq, reduceIte, Int.reduceLE, Int.reduceLT, Int.reduceNeg, Int.reduceToNat])
  · (try simp -implicitDefEqProofs only [push_cast, Nat.reduceAdd, Nat.reduceSub, Nat.reduceMul, Nat.reduceLT, Nat.reduceLeDiff, Nat.reduceEqDiff, Nat.reduceBEq, reduceCtorEq, reduceIte, Int.reduceLE, Int.reduceLT, Int.reduceNeg, Int.reduceToNat])
  intro k hk
  have hp := half_pow hj hk
  by_cases hkj : k < j
  · rw [if_pos hkj] at hp
    obtain ⟨p1, p2⟩ := hp
    have p1' : (1 < (2 : Int) ^ (j - k)) = True := by simp [p1]
    generalize (2 : Int) ^ (j - k) = x at p1 p1' p2 ⊢
    have hc := pow2_cases (n := j - (k + 1)) (by omega)
    simp -implicitDefEqProofs only [push_cast, Nat.reduceAdd, Nat.reduceSub, Nat.reduceMul, Nat.reduceLT, Nat.reduceLeDiff, Nat.reduceEqDiff, Nat.reduceBEq, reduceCtorEq, reduceIte, Int.reduceLE, Int.reduceLT, Int.reduceNeg, Int.reduceToNat, p1', p2]
    rw [wrap64 (n := (2 : Int) ^ (j - (k + 1))) (by omega) (by omega), wrap64 (n := (k : Int) + 1) (by omega) (by omega)]
    refine ⟨by decide, next_at [] (k + 1) (by omega) (by omega) rfl ?_ ?_⟩
    · (try simp -implicitDefEqProofs only [push_cast, Nat.reduceAdd, Nat.reduceSub, Nat.reduceMul, Nat.reduceLT, Nat.reduceLeDiff, Nat.reduceEqDiff, Nat.reduceBEq, reduceCtorEq, reduceIte, Int.reduceLE, Int.reduceLT, Int.reduceNeg, Int.reduceToNat])
    · (try simp -implicitDefEqProofs only [push_cast, Nat.reduceAdd, Nat.reduceSub, Nat.reduceMul, Nat.reduceLT, Nat.reduceLeDiff, Nat.reduceEqDiff, Nat.reduceBEq, reduceCtorEq, reduceIte, Int.reduceLE, Int.reduceLT, Int.reduceNeg, Int.reduceToNat])
  · rw [if_neg hkj] at hp
    obtain rfl : k = j := by omega
    rw [hp]
    simp -implicitDefEqProofs only [push_cast, Nat.reduceAdd, Nat.reduceSub, Nat.reduceMul, Nat.reduceLT, Nat.reduceLeDiff, Nat.reduceEqDiff, Nat.reduceBEq, reduceCtorEq, reduceIte, Int.reduceLE, Int.reduceLT, Int.reduceNeg, Int.reduceToNat]
    (try simp -implicitDefEqProofs only [push_cast, Nat.reduceAdd, Nat.reduceSub, Nat.reduceMul, Nat.reduceLT, Nat.reduceLeDiff, Nat.reduceEqDiff, Nat.reduceBEq, reduceCtorEq, reduceIte, Int.reduceLE, Int.reduceLT, Int.reduceNeg, Int.reduceToNat, Tr.leaf, List.map_nil])
set_option maxHeartbeats 8000000 in
theorem AllTR_in (s : Int) (h1 : 1 ≤ s) (h2 : s < 16) (hm : manyI s ≠ 1) (hls : leafSet s = []) (ih : ∀ a : Int, a < s → Quiet Go.Proofs.Try.prog 48 [.int a] (.sl ((allT 4 a).map encT))) : Quiet Go.Proofs.Try.prog 48 [.int s] (.sl ((allT 4 s).map encT)) := by
  have h1' : (s < 1) = False := by simp; omega
  have h2' : (15 < s) = False := by simp; omega
  have hM := many_ok s h1 h2
  have hm1 : (manyI s = 1) = False := by simp [hm]
  refine quiet_of (rs := #[.tmp 2]) Go.Proofs.Try.func48 rfl rfl rfl mixed rfl rfl fun H hs => ?_
  push_cast -implicitDefEqProofs [eq_self, iff_self, h1', h2']
  refine callq hM ?_
  push_cast -implicitDefEqProofs [eq_self, iff_self, hm1]
  refine loop_at hs (σ := Nat) (fun n => n ≤ 14) (fun n => 16 - n)
    (fun n => [(6, .int ((n : Int) + 1)), (0, .int s), (5, .rsl (H.nxt + 0) 2 0 (cutsU s n).length)]) (fun n => [some (.cells 2 ((cutsU s n).map encT) 0)]) [none] 0 (by omega) rfl ?_ ?_ ?_
  · (try push_cast -implicitDefEqProofs [eq_self, iff_self, cutsU_zero, Int.zero_add, List.map_nil])
  · (try push_cast -implicitDefEqProofs [eq_self, iff_self, cutsU_zero, List.map_nil])
  intro n hn
  have hal := cutsU_len s n
  have hsu : cutsU s (n + 1) = rowT (cutsU s n) (cutT (allT 4) s ((n : Int) + 1)) := cutsU_succ s n
  by_cases hna : (n : Int) + 1 < 15
  · have hna' : ((n : Int) + 1 < 15) = True := by simp [hna]
    generalize hR : cutsU s n = row at hal hsu ⊢
    by_cases hb : band .i64 ((n : Int) + 1) s = (n : Int) + 1
    · have hb' : (band .i64 ((n : Int) + 1) s = (n : Int) + 1) = True := by simp [hb]
      have hle : (n : Int) + 1 ≤ s := sub16 (by omega) (by omega) h1 h2 hb
      by_cases he : (n : Int) + 1 = s
      · have he' : ((n : Int) + 1 = s) = True := by simp [he]
        rw [cutT_none (by omega), rowT_nil] at hsu
        push_cast -implicitDefEqProofs [eq_self, iff_self, hna', hb', he']
        rw [wrap64 (n := (n : Int) + 1 + 1) (by omega) (by omega)]
        refine next_at [some 0] (n + 1) (by omega) (by omega) rfl ?_ ?_
        · (try push_cast -implicitDefEqProofs [eq_self, iff_self, hsu])
        · (try push_cast -implicitDefEqProofs [eq_self, iff_self, hsu])
          exact of_eq_true (encTs_two _)
      have he' : ((n : Int) + 1 = s) = False := by simp [he]
      have hlt : (n : Int) + 1 < s := by omega
      have hX := ih ((n : Int) + 1) hlt
      have hY := ih (s - ((n : Int) + 1)) (by omega)
      have hXl := all_len ((n : Int) + 1)
      have hYl := all_len (s - ((n : Int) + 1))
      rw [cutT, if_pos (by rw [decide_eq_true hlt, decide_eq_true hb]; rfl)] at hsu
      generalize allT 4 ((n : Int) + 1) = X at hX hXl hsu
      generalize allT 4 (s - ((n : Int) + 1)) = Y at hY hYl hsu
      rw [← xsU_all] at hsu
      push_cast -implicitDefEqProofs [eq_self, iff_self, hna', hb', he']
      refine callq hX ?_
      push_cast -implicitDefEqProofs [eq_self, iff_self]
      rw [wrap64 (n := s - ((n : Int) + 1)) (by omega) (by omega)]
      refine callq hY ?_
      push_cast -implicitDefEqProofs [eq_self, iff_self]
      refine loop_at hs (σ := Nat) (fun i => i ≤ X.length) (fun i => X.length - i)
        (fun i => [(9, .int i), (7, .sl (X.map encT)), (8, .sl (Y.map encT)), (6, .int ((n : Int) + 1)), (0, .int s), (5, .rsl (H.nxt + 0) 2 0 (rowT row (xsU X Y i)).length)]) (fun i => [some (.cells 2 ((rowT row (xsU X Y i)).map encT) 0)]) [some 0] 0 (by omega) rfl ?_ ?_ ?_
      · (try push_cast -implicitDefEqProofs [eq_self, iff_self, xsU_zero, rowT_nil, encTs_pure])
      · (try push_cast -implicitDefEqProofs [eq_self, iff_self, xsU_zero, rowT_nil, encTs_pure])
        exact of_eq_true (encTs_two _)
      intro i hi2
      have hxl := xsU_len X Y hXl hYl i
      have hxr : (rowT row (xsU X Y i)).length ≤ n * 14400 + 14400 := by rw [rowT_len]; omega
      by_cases hi : i < X.length
      · have hi' : ((i : Int) < (X.length : Int)) = True := by simp; omega
        have hi0 : (0 ≤ (i : Int)) = True := by simp
        have hxs : rowT row (xsU X Y (i + 1)) = rowT (rowT row (xsU X Y i)) (ysU X[i] Y Y.length) := by rw [xsU_succ X Y hi, rowT_app, ysU_all]
        generalize hR2 : rowT row (xsU X Y i) = row2 at hxr hxs ⊢
        have hget := encTs_get X i hi
        generalize X[i] = x at hget hxs
        push_cast -implicitDefEqProofs [eq_self, iff_self, hi', hi0]
        refine loop_at hs (σ := Nat) (fun j => j ≤ Y.length) (fun j => Y.length - j)
          (fun j => [(10, .int j), (9, .int i), (7, .sl (X.map encT)), (8, .sl (Y.map encT)), (6, .int ((n : Int) + 1)), (0, .int s), (5, .rsl (H.nxt + 0) 2 0 (rowT row2 (ysU x Y j)).length)]) (fun j => [some (.cells 2 ((rowT row2 (ysU x Y j)).map encT) 0)]) [some 0] 0 (by omega) rfl ?_ ?_ ?_
        · (try push_cast -implicitDefEqProofs [eq_self, iff_self, ysU_zero, rowT_nil, encTs_pure])
        · (try push_cast -implicitDefEqProofs [eq_self, iff_self, ysU_zero, rowT_nil, encTs_pure])
          exact of_eq_true (encTs_two _)
        intro j hj2
        have hyl := ysU_len x Y j
        have hyr : (rowT row2 (ysU x Y j)).length ≤ n * 14400 + 14400 + 120 := by rw [rowT_len]; omega
        by_cases hj : j < Y.length
        · have hj' : ((j : Int) < (Y.length : Int)) = True := by simp; omega
          have hj0 : (0 ≤ (j : Int)) = True := by simp
          have hys : rowT row2 (ysU x Y (j + 1)) = rowT (rowT row2 (ysU x Y j)) [.join x Y[j]] := by rw [ysU_succ x Y hj, rowT_app]
          generalize hR3 : rowT row2 (ysU x Y j) = row3 at hyr hys ⊢
          have hget2 := encTs_get Y j hj
          have hJ := JoinR_ok x Y[j]
          generalize Y[j] = y at hget2 hys hJ
          generalize Tr.join x y = xy at hys hJ
          push_cast -implicitDefEqProofs [eq_self, iff_self, hj', hj0, hi', hi0]
          refine areg_grow [none] 12 ?_ (by kernel_rfl) (by kernel_rfl) (by kernel_rfl) ?_
          · intro k o hk
            match k, hk with
            | 0, hk => simp at hk
            | k + 1, hk => simp at hk
          push_cast -implicitDefEqProofs [eq_self, iff_self, hj', hj0, hi', hi0, hget, hget2]
          refine ⟨_, hJ, ?_⟩
          push_cast -implicitDefEqProofs [eq_self, iff_self]
          have hln : (rowT row2 (ysU x Y (j + 1))).length = row3.length + 1 := by rw [hys, rowT_one]
          have hrw : (rowT row2 (ysU x Y (j + 1))).map encT = row3.map encT ++ [encT xy] := by rw [hys, rowT, List.map_append]; rfl
          have hcap : List.take row3.length (row3.map encT) = row3.map encT := List.take_of_length_le (by simp)
          rw [wrap64 (n := (j : Int) + 1) (by omega) (by omega)]
          refine ⟨by omega, next_at [some 1] (j + 1) (by omega) (by omega) rfl ?_ ?_⟩
          · (try push_cast -implicitDefEqProofs [eq_self, iff_self, hln, encTs_pure])
          · (try push_cast -implicitDefEqProofs [eq_self, iff_self, hcap])
            rw [hrw]
            exact ⟨sealLL_snoc (sealLL_pure _ _ _ (encTs_pure row3)) (sealL_pure _ _ _ (encT_pure xy)), fun e he => by rw [← hrw] at he; exact of_eq_true (encTs_two _) e he⟩
        · have hj' : ((j : Int) < (Y.length : Int)) = False := by simp; omega
          obtain rfl : j = Y.length := by omega
          rw [← hxs]
          push_cast -implicitDefEqProofs [eq_self, iff_self, hj']
          rw [wrap64 (n := (i : Int) + 1) (by omega) (by omega)]
          refine next_at [some 0] (i + 1) (by omega) (by omega) rfl ?_ ?_
          · (try push_cast -implicitDefEqProofs [eq_self, iff_self, encTs_pure])
          · (try push_cast -implicitDefEqProofs [eq_self, iff_self, encTs_pure])
            exact of_eq_true (encTs_two _)
      · have hi' : ((i : Int) < (X.length : Int)) = False := by simp; omega
        obtain rfl : i = X.length := by omega
        rw [← hsu]
        push_cast -implicitDefEqProofs [eq_self, iff_self, hi']
        rw [wrap64 (n := (n : Int) + 1 + 1) (by omega) (by omega)]
        refine next_at [some 0] (n + 1) (by omega) (by omega) rfl ?_ ?_
        · (try push_cast -implicitDefEqProofs [eq_self, iff_self, encTs_pure])
        · (try push_cast -implicitDefEqProofs [eq_self, iff_self, encTs_pure])
          exact of_eq_true (encTs_two _)
    · have hb' : (band .i64 ((n : Int) + 1) s = (n : Int) + 1) = False := by simp [hb]
      rw [cutT, if_neg (by rw [decide_eq_false hb, Bool.and_false]; exact Bool.false_ne_true), rowT_nil] at hsu
      push_cast -implicitDefEqProofs [eq_self, iff_self, hna', hb']
      rw [wrap64 (n := (n : Int) + 1 + 1) (by omega) (by omega)]
      refine next_at [some 0] (n + 1) (by omega) (by omega) rfl ?_ ?_
      · (try push_cast -implicitDefEqProofs [eq_self, iff_self, hsu])
      · (try push_cast -implicitDefEqProofs [eq_self, iff_self, hsu])
        exact of_eq_true (encTs_two _)
  · have hna' : ((n : Int) + 1 < 15) = False := by simp; omega
    have hp := allT_parts h1 h2 (n := n) (by omega) (by omega)
    rw [hls, List.nil_append] at hp
    rw [← hp]
    have hcap : List.take (allT 4 s).length ((allT 4 s).map encT) = (allT 4 s).map encT := List.take_of_length_le (by simp)
    push_cast -implicitDefEqProofs [eq_self, iff_self, hna']
    rw [hcap]
    exact sealLL_pure _ _ _ (encTs_pure _)
theorem AllTR_out {s : Int} (h : ¬ (1 ≤ s ∧ s < 16)) : Quiet Go.Proofs.Try.prog 48 [.int s] (.sl ((allT 4 s).map encT)) := by
  rw [all_out h]
  refine quiet_of (rs := #[.tmp 2]) Go.Proofs.Try.func48 rfl rfl rfl mixed rfl rfl fun H hs => ?_
  by_cases h1 : s < 1
  · have h1' : (s < 1) = True := by simp [h1]
    push_cast -implicitDefEqProofs [eq_self, iff_self, h1', List.map_nil]
  · have h1' : (s < 1) = False := by simp [h1]
    have h2' : (15 < s) = True := by simp; omega
    push_cast -implicitDefEqProofs [eq_self, iff_self, h1', h2', List.map_nil]
theorem AllTR_n : ∀ (n : Nat) (s : Int), s < (n : Int) → Quiet Go.Proofs.Try.prog 48 [.int s] (.sl ((allT 4 s).map encT)) := by
  intro n
  induction n with
  | zero => intro s hs; exact AllTR_out (by omega)
  | succ n ih =>
    intro s hs
    by_cases h : 1 ≤ s ∧ s < 16
    · rcases many_one h.1 h.2 with ⟨hm, j, hj, he, ha⟩ | ⟨hm, hl⟩
      · exact AllTR_one s h.1 h.2 hm j hj he ha
      · exact AllTR_in s h.1 h.2 hm hl fun a ha => ih a (by omega)
    · exact AllTR_out h
theorem AllTR_ok (s : Int) : Quiet Go.Proofs.Try.prog 48 [.int s] (.sl ((allT 4 s).map encT)) := AllTR_n (s.toNat + 1) s (by omega)
end
section
attribute [local push_cast] encT_mk encT_take encT_len encT_one encTs_pure encT_pure encIs_pure encNs_pure encN_eq encM_eq plus_obj0 plus_set0 piL_is00 piL_is0 piL_isk encIs_one encNs_four
theorem all_at (p : Tr → Bool) (out L : List Tr) {i : Nat} (h : i < L.length) : allI p out (L.take (i + 1)) = stepI p (allI p out (L.take i)) L[i] := by
  rw [List.take_add_one, List.getElem?_eq_getElem h]
  exact allI_snoc p out _ _
theorem allI_may {p : Tr → Bool} {L out : List Tr} (hs : SortT out) (ho : ∀ t ∈ out, t.may = true) (hL : ∀ t ∈ L, t.may = true) : ∀ t ∈ allI p out L, t.may = true := fun t ht => by
  rcases List.mem_append.1 ((allI_ok p L out hs).2.mem_iff.1 ht) with h | h
  · exact ho t h
  · exact hL t (List.mem_filter.1 h).1
theorem setsI_may (p : Tr → Bool) (s : Nat) : ∀ t ∈ setsI p s, t.may = true := by
  refine allI_may List.Pairwise.nil (fun t ht => by cases ht) fun t ht => ?_
  obtain ⟨k, _, hk⟩ := List.mem_flatMap.1 ht
  exact ((allT_mem 4 _ t).1 hk).1
set_option maxHeartbeats 8000000 in
theorem TreesR_in (m : Mm) (hm : m.may = true) (g : Nat) (hg : g < m.P.length) : Quiet Go.Proofs.Try.prog 16 [encM m, .int (g : Int)] (.sl ((allI (mkB m 4 (ro m g)) [] allTs).map encT)) := by
  have hf := may_f hm
  have hsm := form_small hf
  have hMa := mayR_ok m hsm
  have hMd := MadeR_ok m hm 4
  rw [← setsI_all]
  generalize hp : mkB m 4 (ro m g) = p
  rw [hm] at hMa
  have hg0 : decide ((g : Int) < 0) = false := decide_eq_false (by omega)
  have hgl : decide ((m.P.length : Int) ≤ (g : Int)) = false := decide_eq_false (by omega)
  refine quiet_of (rs := #[.tmp 4]) Go.Proofs.Try.func16 rfl rfl rfl mixed rfl rfl fun H hs => ?_
  push_cast -implicitDefEqProofs [eq_self, iff_self]
  refine callq hMa ?_
  push_cast -implicitDefEqProofs [eq_self, iff_self, hg0, hgl, List.length_map]
  refine loop_at hs (σ := Nat) (fun s => 1 ≤ s ∧ s ≤ 16) (fun s => 16 - s)
    (fun s => [(7, .int s), (5, .rsl (H.nxt + 1) 2 0 (setsI p s).length), (1, .int (g : Int)), (2, .ptr (H.nxt + 0) 3 0 0)])
    (fun s => [some (.cells 3 [[.sl (m.N.map encN), .sl (m.G.map encI), .sl (m.P.map encI)]] 0), some (.cells 2 ((setsI p s).map encT) 0)]) [some 0, none] 1 ⟨by omega, by omega⟩ rfl ?_ ?_ ?_
  · (try push_cast -implicitDefEqProofs [eq_self, iff_self, setsI_one])
  · (try push_cast -implicitDefEqProofs [eq_self, iff_self, setsI_one, List.map_nil])
  rintro s ⟨hs1, hs2⟩
  by_cases hs16 : s < 16
  case neg =>
    obtain rfl : s = 16 := by omega
    push_cast -implicitDefEqProofs [eq_self, iff_self]
    rw [List.take_of_length_le (by simp)]
    exact sealLL_pure _ _ _ (encTs_pure _)
  have hs' : ((s : Int) < 16) = True := by simp; omega
  have hAl := AllTR_ok (s : Int)
  have hsucc := setsI_succ p s
  have hsl := setsI_len p s hs2
  have hsl2 := setsI_len p (s + 1) (by omega)
  have hss := setsI_sort p s
  have hom := setsI_may p s
  have hL4 := allT_len4 ⟨s, hs16⟩
  have hLm : ∀ t ∈ allT 4 (s : Int), t.may = true := fun t ht => ((allT_mem 4 _ t).1 ht).1
  dsimp only at hL4
  generalize allT 4 (s : Int) = L at hAl hsucc hL4 hLm
  generalize setsI p s = out0 at hsucc hsl hss hom ⊢
  push_cast -implicitDefEqProofs [eq_self, iff_self, hs']
  refine callq hAl ?_
  push_cast -implicitDefEqProofs [eq_self, iff_self]
  refine loop_at hs (σ := Nat) (fun i => i ≤ L.length) (fun i => L.length - i)
    (fun i => [(9, .int i), (8, .sl (L.map encT)), (7, .int s), (5, .rsl (H.nxt + 1) 2 0 (allI p out0 (L.take i)).length), (1, .int (g : Int)), (2, .ptr (H.nxt + 0) 3 0 0)])
    (fun i => [some (.cells 3 [[.sl (m.N.map encN), .sl (m.G.map encI), .sl (m.P.map encI)]] 0), some (.cells 2 ((allI p out0 (L.take i)).map encT) 0)]) [some 0, some 1] 0 (by omega) rfl ?_ ?_ ?_
  · (try push_cast -implicitDefEqProofs [eq_self, iff_self, List.take_zero, allI_nil])
  · (try push_cast -implicitDefEqProofs [eq_self, iff_self, List.take_zero, allI_nil])
    exact of_eq_true (encTs_two _)
  intro i hi
  by_cases hil : i < L.length
  case neg =>
    have hi' : ((i : Int) < (L.length : Int)) = False := by simp; omega
    have he : allI p out0 (L.take i) = setsI p (s + 1) := by rw [hsucc, List.take_of_length_le (by omega)]
    push_cast -implicitDefEqProofs [eq_self, iff_self, hi', List.length_map]
    rw [wrap64 (by omega) (by omega)]
    refine next_at [some 0, some 1] (s + 1) ⟨by omega, by omega⟩ (by omega) rfl ?_ ?_
    · (try push_cast -implicitDefEqProofs [eq_self, iff_self, he])
    · (try push_cast -implicitDefEqProofs [eq_self, iff_self, he])
      exact of_eq_true (encTs_two _)
  have hi' : ((i : Int) < (L.length : Int)) = True := by simp; omega
  have hi0 : (0 ≤ (i : Int)) = True := by simp
  have hget := encTs_get L i hil
  have hmay := hLm _ (List.getElem_mem hil)
  have hall := all_at p out0 L hil
  have hol := allI_len p (L.take i) out0 hss
  rw [List.length_take] at hol
  have hMt := hMd L[i] (by omega) hmay g hg
  rw [hp] at hMt
  have hTt := txtR_ok 4 L[i] (by omega) hmay
  have htz := txt_size 4 L[i] (by omega) hmay
  have hos : ∀ t ∈ allI p out0 (L.take i), t.may = true := allI_may hss hom fun t ht => hLm t (List.mem_of_mem_take ht)
  generalize L[i] = t at hget hmay hall hMt hTt htz
  generalize allI p out0 (L.take i) = out at hall hol hos ⊢
  push_cast -implicitDefEqProofs [eq_self, iff_self, hi', List.length_map]
  refine areg_at 8 (by kernel_rfl) (by kernel_rfl) ?_
  push_cast -implicitDefEqProofs [eq_self, iff_self, hi', hi0, hget, List.length_map]
  refine ahdq hMt ?_
  rw [stepI] at hall
  cases hpt : p t with
  | false =>
    rw [hpt, if_neg Bool.false_ne_true] at hall
    push_cast -implicitDefEqProofs [eq_self, iff_self]
    rw [wrap64 (by omega) (by omega)]
    refine next_at [some 0, some 1] (i + 1) (by omega) (by omega) rfl ?_ ?_
    · (try push_cast -implicitDefEqProofs [eq_self, iff_self, hall])
    · (try push_cast -implicitDefEqProofs [eq_self, iff_self, hall])
      exact of_eq_true (encTs_two _)
  | true =>
    rw [hpt, if_pos rfl] at hall
    push_cast -implicitDefEqProofs [eq_self, iff_self, List.length_map]
    refine loop_ex hs (σ := Nat) (τ := Nat) (fun k => k ≤ out.length ∧ posT t out out.length = posT t out k) (fun k => k)
      (fun k => [(11, .int k), (9, .int i), (8, .sl (L.map encT)), (7, .int s), (5, .rsl (H.nxt + 1) 2 0 out.length), (1, .int (g : Int)), (2, .ptr (H.nxt + 0) 3 0 0)])
      (fun k => [some (.cells 3 [[.sl (m.N.map encN), .sl (m.G.map encI), .sl (m.P.map encI)]] 0), some (.cells 2 (out.map encT) 0)]) [some 0, some 1] out.length 4 (fun n => n ≤ out.length ∧ posT t out out.length = n)
      (fun k => [(11, .int k), (9, .int i), (8, .sl (L.map encT)), (7, .int s), (5, .rsl (H.nxt + 1) 2 0 out.length), (1, .int (g : Int)), (2, .ptr (H.nxt + 0) 3 0 0)])
      (fun k => [some (.cells 3 [[.sl (m.N.map encN), .sl (m.G.map encI), .sl (m.P.map encI)]] 0), some (.cells 2 (out.map encT) 0)]) ⟨by omega, rfl⟩ rfl ?_ ?_ ?_ ?_
    · (try push_cast -implicitDefEqProofs [eq_self, iff_self])
    · (try push_cast -implicitDefEqProofs [eq_self, iff_self])
      exact of_eq_true (encTs_two _)
    · rintro k ⟨hk, hpos⟩
      rcases Nat.eq_zero_or_pos k with rfl | hk0
      · have hk' : ((0 : Int) < 0) = False := by simp
        push_cast -implicitDefEqProofs [eq_self, iff_self]
        refine areg_at 16 (by kernel_rfl) (by kernel_rfl) ?_
        push_cast -implicitDefEqProofs [eq_self, iff_self, List.length_map]
        repeat (refine gcallq .any (fun h => Bool.noConfusion h) ?_; push_cast -implicitDefEqProofs [eq_self, iff_self, List.length_map])
        refine exit_at [some 0, some 1] 0 ⟨by omega, hpos⟩ rfl ?_ ?_
        · (try push_cast -implicitDefEqProofs [eq_self, iff_self])
        · (try push_cast -implicitDefEqProofs [eq_self, iff_self])
          exact of_eq_true (encTs_two _)
      · obtain ⟨k, rfl⟩ : ∃ j, k = j + 1 := ⟨k - 1, by omega⟩
        have hk' : ((0 : Int) < (k : Int) + 1) = True := eq_true (by omega)
        have hk1 : (k : Int) + 1 - 1 = (k : Int) := by omega
        have hkw : IntKind.i64.wrap ((k : Int) + 1 - 1) = (k : Int) := by rw [hk1]; exact wrap64 (by omega) (by omega)
        have hkl := inb_true (n := k) (k := out.length) (by omega)
        have hkp : (0 ≤ (k : Int)) = True := by simp
        have hget2 := encTs_get out k (by omega)
        have hTo := txtR_ok 4 out[k] (by omega) (hos _ (List.getElem_mem (by omega)))
        have hoz := txt_size 4 out[k] (by omega) (hos _ (List.getElem_mem (by omega)))
        have hLe := Less_ok (txt 4 t) (txt 4 out[k]) (by omega) (by omega)
        rw [posT, getD_of (by omega)] at hpos
        generalize out[k] = u at hget2 hTo hoz hLe hpos
        push_cast -implicitDefEqProofs [eq_self, iff_self]
        refine areg_at 16 (by kernel_rfl) (by kernel_rfl) ?_
        push_cast -implicitDefEqProofs [eq_self, iff_self, hk', hi0, hi', hget, List.length_map]
        refine gcallq (.lit (.string (txt 4 t))) (fun _ => hTt) ?_
        push_cast -implicitDefEqProofs [eq_self, iff_self, hk', hkw, hkp, hkl, hget2, List.length_map]
        refine ⟨by omega, ?_⟩
        refine gcallq (.lit (.string (txt 4 u))) (fun _ => hTo) ?_
        push_cast -implicitDefEqProofs [eq_self, iff_self, hk', hkw, hkp, hkl, hget2, List.length_map]
        refine gcallq (.bool (decide ((txt 4 t).data.toList < (txt 4 u).data.toList))) (fun _ => hLe) ?_
        by_cases hlt : (txt 4 t).data.toList < (txt 4 u).data.toList
        · rw [if_pos (show tb t < tb u from hlt)] at hpos
          have hlt' : decide ((txt 4 t).data.toList < (txt 4 u).data.toList) = true := decide_eq_true hlt
          rw [hlt']
          push_cast -implicitDefEqProofs [eq_self, iff_self, hk', hkw, List.length_map]
          refine next_at [some 0, some 1] k ⟨by omega, hpos⟩ (by omega) rfl ?_ ?_
          · (try push_cast -implicitDefEqProofs [eq_self, iff_self])
          · (try push_cast -implicitDefEqProofs [eq_self, iff_self])
            exact of_eq_true (encTs_two _)
        · rw [if_neg (show ¬ tb t < tb u from hlt)] at hpos
          have hlt' : decide ((txt 4 t).data.toList < (txt 4 u).data.toList) = false := decide_eq_false hlt
          rw [hlt']
          push_cast -implicitDefEqProofs [eq_self, iff_self, hk', hkw, List.length_map]
          refine exit_at [some 0, some 1] (k + 1) ⟨by omega, hpos⟩ rfl ?_ ?_
          · (try push_cast -implicitDefEqProofs [eq_self, iff_self])
          · (try push_cast -implicitDefEqProofs [eq_self, iff_self])
            exact of_eq_true (encTs_two _)
    rintro n ⟨hn, hpos⟩
    have hins : insT t out = (out.take n ++ [t]) ++ out.drop n := by rw [insT, hpos]
    rw [hins] at hall
    have hcut : List.take (out.length - n) (List.drop n (out.map encT)) = (out.drop n).map encT := by
      rw [List.take_of_length_le (by simp), List.map_drop]
    push_cast -implicitDefEqProofs [eq_self, iff_self, List.length_map, hcut]
    refine ⟨⟨by omega, by omega, by omega⟩, ⟨by omega, of_eq_true (encTs_two _), by rw [List.length_drop]; omega⟩, ?_⟩
    refine areg_grow [some (.cells 3 [[.sl (m.N.map encN), .sl (m.G.map encI), .sl (m.P.map encI)]] 0), none, some (.cells 2 ((out.drop n).map encT) 0)] 9 ?_ (by kernel_rfl) (by kernel_rfl) (by kernel_rfl) ?_
    · intro k o hk
      match k, hk with
      | 0, hk => exact hk
      | 1, hk => simp at hk
      | 2, hk => exact hk
      | k + 3, hk => simp at hk
    have hdr : List.take (out.length - n) ((out.drop n).map encT) = (out.drop n).map encT := List.take_of_length_le (by simp)
    have htk : (out.map encT).take n = (out.take n).map encT := by rw [List.map_take]
    have htl : (List.take n out).length = n := by rw [List.length_take]; omega
    have hdl : (List.drop n out).length = out.length - n := List.length_drop
    have htk2 : List.take (n + 1) ((out.take n).map encT ++ [encT t]) = (out.take n).map encT ++ [encT t] := List.take_of_length_le (by simp; omega)
    have hln : (allI p out0 (List.take (i + 1) L)).length = n + 1 + (out.length - n) := by
      rw [hall, List.length_append, List.length_append, List.length_singleton, htl, hdl]
    have hrow : (allI p out0 (List.take (i + 1) L)).map encT = (out.take n).map encT ++ [encT t] ++ (out.drop n).map encT := by
      rw [hall, List.map_append, List.map_append]; rfl
    push_cast -implicitDefEqProofs [eq_self, iff_self, hi', hi0, hget, List.length_map, Nat.sub_zero, hdr, htk, htl, hdl]
    refine ⟨⟨by omega, by omega⟩, ⟨by omega, by omega⟩, ⟨of_eq_true (encTs_two _), ?_, by omega⟩, ?_⟩
    · intro e he
      obtain ⟨x, _, rfl⟩ := List.mem_map.1 he
      exact encT_one x
    rw [wrap64 (by omega) (by omega)]
    refine next_at [some 0, some 4] (i + 1) (by omega) (by omega) rfl ?_ ?_
    · (try push_cast -implicitDefEqProofs [eq_self, iff_self, hln])
    · (try push_cast -implicitDefEqProofs [eq_self, iff_self, hrow, htk2])
      have er : (out.take n).map encT ++ encT t :: (out.drop n).map encT = (out.take n ++ t :: out.drop n).map encT := by rw [List.map_append, List.map_cons]
      rw [er]
      exact ⟨sealLL_pure _ _ _ (encTs_pure _), of_eq_true (encTs_two _)⟩
set_option maxHeartbeats 4000000 in
theorem TreesR_ok (m : Mm) (hsm : m.Small) (g : Int) : Quiet Go.Proofs.Try.prog 16 [encM m, .int g] (.sl ((treesM m g).map encT)) := by
  have hMa := mayR_ok m hsm
  by_cases h : m.may = true ∧ 0 ≤ g ∧ g < m.P.length
  · obtain ⟨h1, h2, h3⟩ := h
    obtain ⟨k, rfl⟩ : ∃ k : Nat, g = k := ⟨g.toNat, by omega⟩
    rw [treesM_I ⟨h1, by omega⟩]
    exact TreesR_in m h1 k (by omega)
  · rw [treesM_out h]
    refine quiet_of (rs := #[.tmp 4]) Go.Proofs.Try.func16 rfl rfl rfl mixed rfl rfl fun H hs => ?_
    push_cast -implicitDefEqProofs [eq_self, iff_self]
    refine callq hMa ?_
    cases hm : m.may with
    | false =>
      push_cast -implicitDefEqProofs [eq_self, iff_self, List.length_map, List.map_nil]
    | true =>
      rw [hm] at h
      cases hg0 : decide (g < 0) with
      | true =>
        push_cast -implicitDefEqProofs [eq_self, iff_self, hg0, List.length_map, List.map_nil]
      | false =>
        have hg0' := of_decide_eq_false hg0
        have hgl : decide ((m.P.length : Int) ≤ g) = true := decide_eq_true (by
          refine Int.not_lt.1 fun h1 => h ⟨rfl, by omega, h1⟩)
        push_cast -implicitDefEqProofs [eq_self, iff_self, hg0, hgl, List.length_map, List.map_nil]
end
section
attribute [local push_cast] encT_mk encT_take encT_len encT_one encTs_pure encT_pure encIs_pure encNs_pure encN_eq encM_eq encJ_eq encJs_pure plus_obj0 plus_set0 piL_is00 piL_is0 piL_isk encIs_one encNs_four
set_option maxHeartbeats 4000000 in
theorem growTrees_ok (m : Mm) (g : Int) : Quiet Go.Proofs.Try.prog 3 [encM m, .int g] (.bool true) := by
  have hFar := Far_ok m 14
  refine quiet_of (rs := #[.tmp 4]) Go.Proofs.Try.func3 rfl rfl rfl mixed rfl rfl fun H hs => ?_
  push_cast -implicitDefEqProofs [eq_self, iff_self]
  refine callq Awake_ok ?_
  push_cast -implicitDefEqProofs [eq_self, iff_self]
  refine gcallq' (.int (if farM m 14 then 0 else 1)) (fun _ => trivial) (fun _ => hFar) ?_
  cases hfar : farM m 14 with
  | false =>
    push_cast -implicitDefEqProofs [eq_self, iff_self, hfar, Bool.false_eq_true, if_false]
  | true =>
    obtain ⟨hsm, hN, hG, hP⟩ := far_small (by decide) hfar
    have hT := Trees_ok m hsm g
    have hTR := TreesR_ok m hsm g
    have hTs := treesM_short m g
    have hTo := treesM_ok (m := m) (g := g)
    generalize treesM m g = L at *
    have hL := Lists_ok L L (by omega) (by omega) hTo rfl
    push_cast -implicitDefEqProofs [eq_self, iff_self, hfar, if_true]
    refine areg_at 8 (by kernel_rfl) (by kernel_rfl) ?_
    push_cast -implicitDefEqProofs [eq_self, iff_self]
    refine ahdq hT ?_
    push_cast -implicitDefEqProofs [eq_self, iff_self]
    refine ahdq hTR ?_
    push_cast -implicitDefEqProofs [eq_self, iff_self]
    refine ahdq hL ?_
    push_cast -implicitDefEqProofs [eq_self, iff_self]
theorem growTrees_law (us : List AV) (h : ToldAll Go.Proofs.Try.prog Go.Proofs.Try.f3.params.toList us) : Quiet Go.Proofs.Try.prog 3 us (.bool true) := by
  have e1 : Go.Proofs.Try.f3.params.toList = [25, 3] := by kernel_rfl
  rw [e1] at h
  obtain ⟨m, u1, rfl, h1⟩ := told_M h
  obtain ⟨k, u2, rfl, _, h2⟩ := told_I h1
  obtain rfl := told_nil h2
  exact growTrees_ok m k
end
end Go.Sim.Try
