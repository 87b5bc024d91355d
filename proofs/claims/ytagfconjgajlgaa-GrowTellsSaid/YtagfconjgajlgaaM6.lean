/- What the row rests on, part 6. Conditions: none. -/
import Derived.Test.YtagfconjgajlgaaM5
set_option linter.unusedSimpArgs false
set_option linter.unusedVariables false
set_option maxRecDepth 100000
namespace Go.Sim.Try
open Go Go.Sim
attribute [local push_cast] aops_cons aops_nil aopG_none aopG_some aopP_eq aopE_eq aopC_eq aopE?_eq aopC?_eq aopB_eq aopB?_eq aopN_eq aopN?_eq anxt anext amrange alast amapNil abr anilq gopP_eq gopL_eq ahead_cons ahead_nil ahdG_none ahdG_some ahdP_eq ahdN_eq ahdC_eq ahdN?_eq ahdS_eq ahdS?_eq astoreN ahdC?_eq ghdP_eq ghdC_eq ghdC?_eq ghdZ_f ghdZ_t ahdI_eq ahdI?_eq ghdN?_eq aim_nil aim_cons isIn_nil isIn_none isIn_cons aimm aheP_eq aheA_eq aheC_eq aheC?_eq aheI?_eq aheA?_eq gheP_eq gheC_eq gheC?_eq gheZ_eq aheG_none aheG_some aheff_cons aheff_nil aapp gro_rsl gro_lit gro_esl opt_some opt_none no_eq acondT_true acondT_false acondT_lit abytes bytesU aw_skip aw_region aw_regionD aw_seq aw_cond aw_block aw_loop aw_exit aw_label aw_ret thn_normal thn_exit thn_ret inb_normal inb_exit inb_ret qret_ret qret_normal gcond apure aeff anew acallee ares aresT aresL aresC ares1 qfin_eq ev ofV evL gokL tget tput_some tput_none initT abin aint aun aload afaddr aiaddr afield aindex aextract apick pickv_lit Bool.or_false Bool.false_or Bool.or_true Bool.true_or imp_self aslice chunk roomB abound aconv abuild afill splice alen aminmax abuiltin anil apart Value.oneCell' astore aappend srcEs abuildSlice amakeSlice amapPut aclear aentry aestore alookup aput afind mget keyV sameV_int Option.isSome_some Option.isSome_none cond_true cond_false asets isEq plus_obj plus_nxt plus_add plus_set plus_del IntKind.bits Option.map_some Option.map_none Option.bind_some Option.bind_none Option.join_some Option.getD_some Option.getD_none Option.toList List.getElem?_toArray List.getElem?_cons_zero List.getElem?_cons_succ List.getElem?_nil List.length_cons List.length_nil List.length_map List.head?_cons List.cons_append List.nil_append List.append_nil List.map_cons List.map_nil List.getD_cons_zero List.getD_cons_succ List.replicate_succ List.replicate_zero List.set_cons_zero List.set_cons_succ List.take_succ_cons List.take_zero List.drop_succ_cons List.drop_zero List.all_cons List.all_nil Nat.zero_add if_true if_false true_and and_true false_and and_false true_implies implies_true forall_const Bool.and_true Bool.true_and Bool.false_and Bool.and_false Bool.true_beq Bool.false_beq Bool.not_not beq_tt beq_ff Int.toNat_natCast decide_true decide_false Bool.not_true Bool.not_false Bool.true_eq_false Bool.false_eq_true false_implies exists_prop eq_self bne_self_eq_false beq_self_eq_true decide_eq_true_eq decide_eq_false_iff_not Bool.not_eq_true' Bool.not_eq_false' AV.int AV.bool AV.nilS ne_eq not_false_eq_true not_true_eq_false exists_eq_left exists_eq_left' Nat.lt_irrefl core_lit grd_lit acells_lit one_lit core_agg grd_agg acells_agg one_agg core_tup grd_tup acells_tup one_tup core_sl grd_sl acells_sl one_sl core_esl grd_esl acells_esl one_esl core_rsl grd_rsl acells_rsl one_rsl core_ptr grd_ptr acells_ptr one_ptr core_iptr grd_iptr acells_iptr one_iptr core_clo grd_clo acells_clo one_clo core_mp grd_mp acells_mp one_mp core_any grd_any acells_any one_any core_gv grd_gv fit_agg fit_lit fit_sl fit_esl fit_rsl fit_ptr fit_iptr fit_clo fit_mp retq_ret retq_normal set_nxt set_set plus_obj_set plus_set_set app_get0 app_get app_set0 app_set List.append_assoc List.length_append List.length_set Nat.lt_add_one Nat.add_lt_add_iff_right Nat.lt_add_right_iff_pos Nat.add_lt_add_iff_left List.mem_cons List.not_mem_nil or_false forall_eq forall_eq_or_imp lt_s0 lt_s1 lt_s2 lt_s3 lt_s4 lt_s5 lt_s6 lt_s7 lt_s8 pickv_t pickv_f or_nand or_nand2 imp_and_l SealT SealOs sealO_cells sl_lit sl_any sl_agg sl_tup sl_sl sl_rsl slO sl_esl sl_nil sl_eslesl sl_eslnil sl_rslrsl sl_eslrsl sl_nilrsl sl_ptr sl_iptr sl_ptri slP sl_clo sl_mp sl_gv sll_nil sll_cons slll_nil slll_cons shut_eq shutO Option.join_none Fn.func.injEq and_self sealL_self sealLL_self seal_self PureL PureLL Pure Nat.le_refl Nat.zero_le AV.lit.injEq Value.int.injEq Value.bool.injEq false_or or_true true_or Int.natCast_zero Int.ofNat_zero Int.cast_ofNat_Int Int.natCast_add Int.natCast_one Option.some.injEq piL_is sop_nil sop_cons sop_none sop_some sopO_some sop_new shut_pi shutL_nil shutL_cons exQ_exit exQ_ret exQ_normal Go.Sim.Try.ty_load1 Go.Sim.Try.ty_zero1 Go.Sim.Try.ty_load2 Go.Sim.Try.ty_zero2 Go.Sim.Try.ty_und2 Go.Sim.Try.ty_load3 Go.Sim.Try.ty_zero3 Go.Sim.Try.ty_und3 Go.Sim.Try.ty_load4 Go.Sim.Try.ty_zero4 Go.Sim.Try.ty_und4 Go.Sim.Try.ty_load5 Go.Sim.Try.ty_zero5 Go.Sim.Try.ty_und5 Go.Sim.Try.ty_load9 Go.Sim.Try.ty_zero9 Go.Sim.Try.ty_und9 Go.Sim.Try.ty_load21 Go.Sim.Try.ty_zero21 Go.Sim.Try.ty_und21 Go.Sim.Try.ty_load22 Go.Sim.Try.ty_zero22 Go.Sim.Try.ty_el22 Go.Sim.Try.ty_zeroE22 Go.Sim.Try.ty_load23 Go.Sim.Try.ty_zero23 Go.Sim.Try.ty_el23 Go.Sim.Try.ty_zeroE23 Go.Sim.Try.ty_load25 Go.Sim.Try.ty_zero25 Go.Sim.Try.ty_fld25_0 Go.Sim.Try.ty_part25_0 Go.Sim.Try.ty_fld25_1 Go.Sim.Try.ty_part25_1 Go.Sim.Try.ty_fld25_2 Go.Sim.Try.ty_part25_2 Go.Sim.Try.ty_struct25 Go.Sim.Try.ty_load29 Go.Sim.Try.ty_zero29 Go.Sim.Try.ty_el29 Go.Sim.Try.ty_zeroE29 Go.Sim.Try.ty_load34 Go.Sim.Try.ty_zero34 Go.Sim.Try.ty_und34 Go.Sim.Try.ty_load41 Go.Sim.Try.ty_zero41 Go.Sim.Try.ty_fld41_0 Go.Sim.Try.ty_part41_0 Go.Sim.Try.ty_fld41_1 Go.Sim.Try.ty_part41_1 Go.Sim.Try.ty_fld41_2 Go.Sim.Try.ty_part41_2 Go.Sim.Try.ty_struct41 Go.Sim.Try.ty_load47 Go.Sim.Try.ty_zero47 Go.Sim.Try.ty_el47 Go.Sim.Try.ty_zeroE47 Go.Sim.Try.ty_load55 Go.Sim.Try.ty_zero55 Go.Sim.Try.ty_fld55_0 Go.Sim.Try.ty_part55_0 Go.Sim.Try.ty_fld55_1 Go.Sim.Try.ty_part55_1 Go.Sim.Try.ty_fld55_2 Go.Sim.Try.ty_part55_2 Go.Sim.Try.ty_fld55_3 Go.Sim.Try.ty_part55_3 Go.Sim.Try.ty_struct55 Go.Sim.Try.ty_load56 Go.Sim.Try.ty_zero56 Go.Sim.Try.ty_load58 Go.Sim.Try.ty_zero58 Go.Sim.Try.ty_fld58_0 Go.Sim.Try.ty_part58_0 Go.Sim.Try.ty_fld58_1 Go.Sim.Try.ty_part58_1 Go.Sim.Try.ty_struct58 Go.Sim.Try.ty_load60 Go.Sim.Try.ty_zero60 Go.Sim.Try.ty_load67 Go.Sim.Try.ty_zero67 Go.Sim.Try.ty_el67 Go.Sim.Try.ty_zeroE67 Go.Sim.Try.ty_load68 Go.Sim.Try.ty_zero68 Go.Sim.Try.ty_und68 Go.Sim.Try.ty_vzero58 Go.Sim.Try.ty_load72 Go.Sim.Try.ty_zero72 Go.Sim.Try.ty_el72 Go.Sim.Try.ty_zeroE72 Go.Sim.Try.ty_load79 Go.Sim.Try.ty_zero79 Go.Sim.Try.ty_load80 Go.Sim.Try.ty_zero80 Go.Sim.Try.ty_und80 Go.Sim.Try.ty_vzero4 Go.Sim.Try.ty_load82 Go.Sim.Try.ty_zero82 Go.Sim.Try.ty_fld82_0 Go.Sim.Try.ty_part82_0 Go.Sim.Try.ty_fld82_1 Go.Sim.Try.ty_part82_1 Go.Sim.Try.ty_fld82_2 Go.Sim.Try.ty_part82_2 Go.Sim.Try.ty_struct82 Go.Sim.Try.ty_load86 Go.Sim.Try.ty_zero86 Go.Sim.Try.ty_und86 Go.Sim.Try.ty_vzero3 Go.Sim.Try.ty_load87 Go.Sim.Try.ty_zero87 Go.Sim.Try.ty_arr87 Go.Sim.Try.ty_part87_0 Go.Sim.Try.ty_part87_1 Go.Sim.Try.ty_struct87 Go.Sim.Try.ty_load98 Go.Sim.Try.ty_zero98 Go.Sim.Try.ty_und98 Go.Sim.Try.ty_load100 Go.Sim.Try.ty_zero100 Go.Sim.Try.ty_und100 Go.Sim.Try.ty_el100 Go.Sim.Try.ty_zeroE100 Go.Sim.Try.ty_load104 Go.Sim.Try.ty_zero104 Go.Sim.Try.ty_load109 Go.Sim.Try.ty_zero109 Go.Sim.Try.ty_load112 Go.Sim.Try.ty_zero112 Go.Sim.Try.ty_und112 Go.Sim.Try.ty_load119 Go.Sim.Try.ty_zero119 Go.Sim.Try.ty_und119 Go.Sim.Try.ty_load121 Go.Sim.Try.ty_zero121 Go.Sim.Try.ty_und121 Go.Sim.Try.ty_load129 Go.Sim.Try.ty_zero129 Go.Sim.Try.ty_und129 Go.Sim.Try.ty_load133 Go.Sim.Try.ty_zero133
section
attribute [local push_cast] encIs_pure encNs_pure encN_eq encM_eq encJ_eq encJs_pure plus_obj0 plus_set0 piL_is00 piL_is0 piL_isk encIs_one encNs_four
theorem far_small {m : Mm} {k : Int} (hk : k ≤ 1000) (h : farM m k = true) : m.Small ∧ (m.N.length : Int) ≤ k ∧ (m.G.length : Int) ≤ k ∧ (m.P.length : Int) ≤ k := by
  unfold farM at h
  simp only [Bool.and_eq_true, decide_eq_true_eq] at h
  exact ⟨⟨by omega, by omega, by omega⟩, h.1.1, h.1.2, h.2⟩
theorem small_of {m : Mm} (h : m.may = true) : m.Small := form_small (may_f h)
end
section
attribute [local push_cast] encIs_pure plus_obj0 plus_set0 piL_is00 piL_is0 piL_isk encIs_one
def preI (l : List Int) (i : Nat) : List Int := l.take i
theorem preI_zero (l : List Int) : preI l 0 = [] := rfl
theorem preI_all (l : List Int) : preI l l.length = l := List.take_length
theorem preI_len {l : List Int} {i : Nat} (h : i ≤ l.length) : (preI l i).length = i := by rw [preI, List.length_take]; omega
theorem preI_succ {l : List Int} {i : Nat} (h : i < l.length) : preI l (i + 1) = preI l i ++ [l.getD i 0] := by
  rw [preI, preI, List.take_add_one, List.getElem?_eq_getElem h, List.getD_eq_getElem?_getD, List.getElem?_eq_getElem h]; rfl
theorem MayR15_ok (p : List Int) (hp : p.length ≤ 1000000) : Quiet Go.Proofs.Try.prog 77 [.sl (p.map encI)] (.bool (mayS p)) := by
  refine quiet_of (rs := #[.tmp 2]) Go.Proofs.Try.func77 rfl rfl rfl mixed rfl rfl fun H hs => ?_
  push_cast -implicitDefEqProofs [eq_self, iff_self]
  refine loop_at hs (σ := Nat) (fun i => i ≤ p.length ∧ ∀ k, k < i → 0 ≤ p.getD k 0 ∧ p.getD k 0 ≤ k) (fun i => p.length - i)
    (fun i => [(3, .int i), (0, .sl (p.map encI))]) (fun i => []) [] 0 ⟨by omega, fun k hk => by omega⟩ rfl ?_ ?_ ?_
  · (try push_cast -implicitDefEqProofs [eq_self, iff_self])
  · (try push_cast -implicitDefEqProofs [eq_self, iff_self])
  rintro i ⟨hi2, hall⟩
  by_cases hi : i < p.length
  · have hi' : ((i : Int) < (p.length : Int)) = True := by simp; omega
    have hi0 : (0 ≤ (i : Int)) = True := by simp
    have hget := int_at hi
    have hbad : ¬ (0 ≤ p.getD i 0 ∧ p.getD i 0 ≤ i) → mayS p = false := fun h => by
      rw [Bool.eq_false_iff]
      intro hm
      exact h ((mayS_iff.1 hm).1 i hi)
    have hall' : (0 ≤ p.getD i 0 ∧ p.getD i 0 ≤ i) → ∀ k, k < i + 1 → 0 ≤ p.getD k 0 ∧ p.getD k 0 ≤ k := fun h k hk => by
      rcases Nat.lt_succ_iff_lt_or_eq.1 hk with h1 | h1
      · exact hall k h1
      · rw [h1]; exact h
    generalize p.getD i 0 = x at hget hbad hall'
    by_cases h1 : x < 0
    · have hd : decide (x < 0) = true := decide_eq_true h1
      rw [hbad (by omega)]
      push_cast -implicitDefEqProofs [eq_self, iff_self, hi', hi0, hget, hd, List.length_map]
      repeat (refine gskip ?_; push_cast -implicitDefEqProofs [eq_self, iff_self, hi', hi0, hget, hd])
    · have hd : decide (x < 0) = false := decide_eq_false h1
      by_cases h2 : (i : Int) < x
      · have hd2 : decide ((i : Int) < x) = true := decide_eq_true h2
        rw [hbad (by omega)]
        push_cast -implicitDefEqProofs [eq_self, iff_self, hi', hi0, hget, hd, hd2, List.length_map]
      · have hd2 : decide ((i : Int) < x) = false := decide_eq_false h2
        push_cast -implicitDefEqProofs [eq_self, iff_self, hi', hi0, hget, hd, hd2, List.length_map]
        rw [wrap64 (by omega) (by omega)]
        refine next_at [] (i + 1) ⟨by omega, hall' (by omega)⟩ (by omega) rfl ?_ ?_
        · (try push_cast -implicitDefEqProofs [eq_self, iff_self])
        · (try push_cast -implicitDefEqProofs [eq_self, iff_self])
  · have hi' : ((i : Int) < (p.length : Int)) = False := by simp; omega
    obtain rfl : i = p.length := by omega
    have hm : mayS p = decide (p.length ≤ 400) := by
      rw [mayS_cut, List.all_eq_true.2 (fun k hk => ?_), Bool.true_and]
      have := hall k (List.mem_range.1 hk)
      simp only [Bool.and_eq_true, decide_eq_true_eq]
      exact this
    rw [hm]
    push_cast -implicitDefEqProofs [eq_self, iff_self, hi', List.length_map]
    exact decide_eq_decide.2 (by omega)
theorem FindR15_ok (p : List Int) (hp : p.length ≤ 1000000) (i : Int) : Quiet Go.Proofs.Try.prog 100 [.sl (p.map encI), .int i] (.int (findS p i)) := by
  refine quiet_of (rs := #[.tmp 4]) Go.Proofs.Try.func100 rfl rfl rfl mixed rfl rfl fun H hs => ?_
  push_cast -implicitDefEqProofs [eq_self, iff_self]
  refine callq (MayR15_ok p hp) ?_
  by_cases hc : mayS p = true ∧ 0 ≤ i ∧ i < p.length
  case neg =>
    rw [findS_none hc]
    cases hm : mayS p with
    | false =>
      push_cast -implicitDefEqProofs [eq_self, iff_self]
      repeat (refine gskip ?_; push_cast -implicitDefEqProofs [eq_self, iff_self])
    | true =>
      by_cases h0 : i < 0
      · have hd : decide (i < 0) = true := decide_eq_true h0
        push_cast -implicitDefEqProofs [eq_self, iff_self, hd]
        repeat (refine gskip ?_; push_cast -implicitDefEqProofs [eq_self, iff_self, hd])
      · have hd : decide (i < 0) = false := decide_eq_false h0
        have hd2 : decide ((p.length : Int) ≤ i) = true := decide_eq_true (by
          by_cases h : i < p.length
          · exact absurd ⟨hm, by omega, h⟩ hc
          · omega)
        push_cast -implicitDefEqProofs [eq_self, iff_self, hd, hd2, List.length_map]
  obtain ⟨hm, h0, hlt⟩ := hc
  obtain ⟨n, rfl⟩ : ∃ n : Nat, i = n := ⟨i.toNat, by omega⟩
  have hn : n < p.length := by omega
  have hd : decide ((n : Int) < 0) = false := decide_eq_false (by omega)
  have hd2 : decide ((p.length : Int) ≤ n) = false := decide_eq_false (by omega)
  rw [findS_at hm hn, hm]
  push_cast -implicitDefEqProofs [eq_self, iff_self, hd, hd2, List.length_map]
  refine loop_at hs (σ := Nat) (fun k => k < p.length ∧ rootN p k = rootN p n) (fun k => k)
    (fun k => [(1, .int k), (0, .sl (p.map encI))]) (fun k => []) [] n ⟨hn, rfl⟩ rfl ?_ ?_ ?_
  · (try push_cast -implicitDefEqProofs [eq_self, iff_self])
  · (try push_cast -implicitDefEqProofs [eq_self, iff_self])
  rintro k ⟨hk, hr⟩
  have hget := int_at hk
  have hx := up_lt hm hk
  have hk' : ((k : Int) < (p.length : Int)) = True := eq_true (by omega)
  have hk0 : (0 ≤ (k : Int)) = True := by simp
  by_cases hs' : p.getD k 0 = k
  · rw [← hr, rootN_self hs']
    have hd3 : (p.getD k 0 = (k : Int)) = True := eq_true hs'
    generalize p.getD k 0 = x at hget hx hs' hd3
    subst hs'
    push_cast -implicitDefEqProofs [eq_self, iff_self, hk', hk0, hget, hd3, List.length_map]
  · have hup := rootN_up hm hk hs'
    generalize p.getD k 0 = x at hget hx hs' hup
    obtain ⟨x, rfl⟩ : ∃ y : Nat, x = y := ⟨x.toNat, by omega⟩
    have hd3 : ((x : Int) = (k : Int)) = False := eq_false hs'
    push_cast -implicitDefEqProofs [eq_self, iff_self, hk', hk0, hget, hd3, List.length_map]
    refine next_at [] x ⟨by omega, by rw [← hr, hup, Int.toNat_natCast]⟩ (by omega) rfl ?_ ?_
    · (try push_cast -implicitDefEqProofs [eq_self, iff_self])
    · (try push_cast -implicitDefEqProofs [eq_self, iff_self])
theorem RootsR15_ok (p : List Int) (hp : p.length ≤ 1000000) (H : AH) : ACalls Go.Proofs.Try.prog 94 [.sl (p.map encI)] H (RowR H 1 ((rootsS p).map encI)) := by
  refine acalls_sc (rs := #[.tmp 2]) Go.Proofs.Try.func94 rfl rfl rfl mixed rfl (Nat.le_of_ble_eq_true rfl) fun hs _ => ?_
  push_cast -implicitDefEqProofs [eq_self, iff_self]
  refine callq (MayR15_ok p hp) ?_
  cases hm : mayS p with
  | false =>
    have hr : rootsS p = [] := by rw [rootsS, if_neg (by rw [hm]; exact Bool.false_ne_true)]
    rw [hr]
    push_cast -implicitDefEqProofs [eq_self, iff_self]
    refine loop_at hs (σ := Nat) (fun i => i = 0) (fun i => i) (fun i => [(5, .int i), (4, .bool false), (3, .rsl (H.nxt + 0) 1 0 0), (0, .sl (p.map encI))]) (fun i => [some (.cells 1 [] 0)]) [none] 0 rfl rfl ?_ ?_ ?_
    · (try push_cast -implicitDefEqProofs [eq_self, iff_self])
    · (try push_cast -implicitDefEqProofs [eq_self, iff_self])
    rintro i rfl
    push_cast -implicitDefEqProofs [eq_self, iff_self, List.length_map, List.map_nil]
    have := ret_row hs (z := 1) (k := 0) (rows := []) (l := [some (.cells 1 [] 0)]) (φ := True) rfl (encIs_pure []) (fun e he => by cases he) trivial
    exact this
  | true =>
    have hl := rootsS_len hm
    push_cast -implicitDefEqProofs [eq_self, iff_self]
    refine loop_at hs (σ := Nat) (fun i => i ≤ p.length) (fun i => p.length - i) (fun i => [(5, .int i), (4, .bool true), (3, .rsl (H.nxt + 0) 1 0 (preI (rootsS p) i).length), (0, .sl (p.map encI))]) (fun i => [some (.cells 1 ((preI (rootsS p) i).map encI) 0)]) [none] 0 (by omega) rfl ?_ ?_ ?_
    · (try push_cast -implicitDefEqProofs [eq_self, iff_self, preI_zero, List.length_nil])
    · (try push_cast -implicitDefEqProofs [eq_self, iff_self, preI_zero, List.map_nil])
    intro i hi2
    by_cases hi : i < p.length
    · have hi' : ((i : Int) < (p.length : Int)) = True := by simp; omega
      have hf := FindR15_ok p hp i
      have hv : (rootsS p).getD i 0 = findS p i := by rw [findS_at hm hi]; exact rootsS_at hm hi
      have htk := preI_succ (l := rootsS p) (i := i) (by omega)
      rw [hv] at htk
      have hln : (preI (rootsS p) i).length = i := preI_len (by omega)
      generalize findS p i = v at hf htk
      have hrow : (preI (rootsS p) (i + 1)).map encI = (preI (rootsS p) i).map encI ++ [[.int v]] := by rw [htk, List.map_append]; rfl
      have hln2 : (preI (rootsS p) (i + 1)).length = (preI (rootsS p) i).length + 1 := by rw [htk, List.length_append]; rfl
      have hcap : List.take (preI (rootsS p) i).length ((preI (rootsS p) i).map encI) = (preI (rootsS p) i).map encI := List.take_of_length_le (by simp)
      push_cast -implicitDefEqProofs [eq_self, iff_self, hi', List.length_map]
      refine callq hf ?_
      push_cast -implicitDefEqProofs [eq_self, iff_self, hi', List.length_map]
      rw [wrap64 (by omega) (by omega)]
      refine ⟨by omega, next_at [some 2] (i + 1) (by omega) (by omega) rfl ?_ ?_⟩
      · (try push_cast -implicitDefEqProofs [eq_self, iff_self, hln2])
      · (try push_cast -implicitDefEqProofs [eq_self, iff_self, hcap, hrow])
        rw [← hrow]
        exact ⟨sealLL_pure _ _ _ (encIs_pure _), of_eq_true (encIs_one _)⟩
    · obtain rfl : i = p.length := by omega
      have hi' : ((p.length : Int) < (p.length : Int)) = False := by simp
      have hall : preI (rootsS p) p.length = rootsS p := by rw [← hl]; exact preI_all _
      push_cast -implicitDefEqProofs [eq_self, iff_self, hi', List.length_map, hall]
      have := ret_row hs (z := 1) (k := 0) (rows := (rootsS p).map encI) (l := [some (.cells 1 ((rootsS p).map encI) 0)]) (φ := True) rfl (encIs_pure _) (of_eq_true (encIs_one _)) trivial
      rwa [List.length_map] at this
theorem RootsR15_q (p : List Int) (hp : p.length ≤ 1000000) : Quiet Go.Proofs.Try.prog 94 [.sl (p.map encI)] (.sl ((rootsS p).map encI)) := quiet_row (encIs_pure _) (RootsR15_ok p hp)
theorem IntsR_ok (a b : List Int) (ha : a.length ≤ 140737488355328) (hb : b.length ≤ 140737488355328) : Quiet Go.Proofs.Try.prog 93 [.sl (a.map encI), .sl (b.map encI)] (.bool (decide (a = b))) := by
  refine quiet_of (rs := #[.tmp 4]) Go.Proofs.Try.func93 rfl rfl rfl mixed rfl rfl fun H hs => ?_
  by_cases hl : a.length = b.length
  · have hl' : ((a.length : Int) = (b.length : Int)) = True := by simp; omega
    push_cast -implicitDefEqProofs [eq_self, iff_self, hl']
    refine loop_rule hs (σ := Nat) (fun i => i ≤ a.length ∧ a.take i = b.take i) (fun i => a.length - i)
      (fun i => [(0, .sl (a.map encI)), (1, .sl (b.map encI)), (5, .int i)]) (fun _ => []) 0 ⟨by omega, rfl⟩ ?_ ?_ ?_
    · (try push_cast -implicitDefEqProofs [eq_self, iff_self, encIs_pure])
    · (try push_cast -implicitDefEqProofs [eq_self, iff_self])
    · rintro i ⟨h2, h3⟩
      by_cases hi : i < a.length
      · have hi' : ((i : Int) < (a.length : Int)) = True := by simp; omega
        have hib : ((i : Int) < (b.length : Int)) = True := by simp; omega
        have hi0 : (0 ≤ (i : Int)) = True := by simp
        push_cast -implicitDefEqProofs [eq_self, iff_self, hi', hi0]
        refine areg_at 9 (by kernel_rfl) (by kernel_rfl) ?_
        push_cast -implicitDefEqProofs [eq_self, iff_self, hi', hib, hi0, encIs_get a i hi, encIs_get b i (by omega), encI]
        refine ⟨fun h => ?_, fun h => ?_⟩
        · (try push_cast -implicitDefEqProofs [eq_self, iff_self])
          symm
          rw [decide_eq_false_iff_not]
          rintro rfl
          exact h rfl
        · rw [wrap64 (n := (i : Int) + 1) (by omega) (by omega)]
          refine next_intro (i + 1) ⟨by omega, ?_⟩ (by omega) ?_ ?_
          · rw [List.take_succ_eq_append_getElem hi, List.take_succ_eq_append_getElem (by omega), h3, h]
          · (try push_cast -implicitDefEqProofs [eq_self, iff_self, encIs_pure])
          · (try push_cast -implicitDefEqProofs [eq_self, iff_self])
      · have hi' : ((i : Int) < (a.length : Int)) = False := by simp; omega
        push_cast -implicitDefEqProofs [eq_self, iff_self, hi']
        (try push_cast -implicitDefEqProofs [eq_self, iff_self])
        rw [List.take_of_length_le (by omega), List.take_of_length_le (by omega)] at h3
        simp [h3]
  · have hl' : ((a.length : Int) = (b.length : Int)) = False := by simp; omega
    push_cast -implicitDefEqProofs [eq_self, iff_self, hl']
    (try push_cast -implicitDefEqProofs [eq_self, iff_self])
    symm
    rw [decide_eq_false_iff_not]
    rintro rfl
    exact hl rfl
theorem SameR15_ok (p q : List Int) (hp : p.length ≤ 1000000) (hq : q.length ≤ 1000000) : Quiet Go.Proofs.Try.prog 60 [.sl (p.map encI), .sl (q.map encI)] (.bool (sameS p q)) := by
  have h1 := rootsS_le p
  have h2 := rootsS_le q
  refine quiet_of (rs := #[.tmp 4]) Go.Proofs.Try.func60 rfl rfl rfl mixed rfl rfl fun H hs => ?_
  push_cast -implicitDefEqProofs [eq_self, iff_self]
  refine callq (MayR15_ok p hp) ?_
  push_cast -implicitDefEqProofs [eq_self, iff_self]
  refine callq (MayR15_ok q hq) ?_
  push_cast -implicitDefEqProofs [eq_self, iff_self]
  refine callq (RootsR15_q p hp) ?_
  push_cast -implicitDefEqProofs [eq_self, iff_self]
  refine callq (RootsR15_q q hq) ?_
  push_cast -implicitDefEqProofs [eq_self, iff_self]
  refine callq (IntsR_ok _ _ (by omega) (by omega)) ?_
  rw [sameS_cut]
  cases mayS p <;> cases mayS q <;> push_cast -implicitDefEqProofs [eq_self, iff_self]
theorem joinS_two {p : List Int} {a b : Int} (h : ¬ (findS p a = -1 ∨ findS p b = -1)) : joinS p a b = ((rootsS p).map fun r => if r = findS p a ∨ r = findS p b then min (findS p a) (findS p b) else r, true) := by
  rw [joinS, if_neg h]
  congr 1
  refine List.map_congr_left fun r _ => ?_
  split <;> split <;> omega
def jnF (x y r : Int) : Int := if r = x ∨ r = y then min x y else r
def jnR (R : List Int) (x y : Int) (n : Nat) : List Int := (R.take n).map (jnF x y) ++ R.drop n
theorem jnR_zero (R : List Int) (x y : Int) : jnR R x y 0 = R := by simp [jnR]
theorem jnR_len (R : List Int) (x y : Int) (n : Nat) : (jnR R x y n).length = R.length := by simp [jnR]; omega
theorem jnR_at {R : List Int} {x y : Int} {n : Nat} (h : n < R.length) : (jnR R x y n).getD n 0 = R.getD n 0 := by
  rw [jnR, List.getD_eq_getElem?_getD, List.getElem?_append_right (by simp; omega), List.getD_eq_getElem?_getD, List.getElem?_drop]
  simp [Nat.min_eq_left (Nat.le_of_lt h)]
theorem jnR_succ {R : List Int} {x y : Int} {n : Nat} (h : n < R.length) : jnR R x y (n + 1) = (jnR R x y n).set n (jnF x y (R.getD n 0)) := by
  have e : R.take (n + 1) = R.take n ++ [R.getD n 0] := by
    rw [List.take_add_one, List.getElem?_eq_getElem h, List.getD_eq_getElem?_getD, List.getElem?_eq_getElem h]; rfl
  have e2 : R.drop n = R.getD n 0 :: R.drop (n + 1) := by
    rw [List.getD_eq_getElem?_getD, List.getElem?_eq_getElem h]; exact List.drop_eq_getElem_cons h
  rw [jnR, jnR, e, List.map_append, e2]
  rw [List.set_append, if_neg (by simp; omega)]
  simp [Nat.min_eq_left (Nat.le_of_lt h)]
theorem jnR_all {R : List Int} {x y : Int} : jnR R x y R.length = R.map (jnF x y) := by simp [jnR]
theorem JoinR15_ok (p : List Int) (hp : p.length ≤ 1000000) (a b : Int) : Quiet Go.Proofs.Try.prog 117 [.sl (p.map encI), .int a, .int b] (.tup [.sl ((joinS p a b).1.map encI), .bool (joinS p a b).2]) := by
  have hfa := findS_ge (p := p) a
  have hfb := findS_ge (p := p) b
  refine quiet_of (rs := #[.tmp 6, .tmp 7]) Go.Proofs.Try.func117 rfl rfl rfl mixed rfl rfl fun H hs => ?_
  push_cast -implicitDefEqProofs [eq_self, iff_self]
  refine callq (FindR15_ok p hp a) ?_
  push_cast -implicitDefEqProofs [eq_self, iff_self]
  refine callq (FindR15_ok p hp b) ?_
  by_cases hx : findS p a = -1 ∨ findS p b = -1
  · rw [joinS_bad hx]
    by_cases h1 : findS p a < 0
    · have hd : decide (findS p a < 0) = true := decide_eq_true h1
      push_cast -implicitDefEqProofs [eq_self, iff_self, hd]
      repeat (refine gskip ?_; push_cast -implicitDefEqProofs [eq_self, iff_self, hd])
    · have hd : decide (findS p a < 0) = false := decide_eq_false h1
      have hd2 : decide (findS p b < 0) = true := decide_eq_true (by omega)
      push_cast -implicitDefEqProofs [eq_self, iff_self, hd, hd2]
  · have hm : mayS p = true := by
      by_cases hm : mayS p = true
      · exact hm
      · exact absurd (.inl (findS_none (fun h => hm h.1))) hx
    have hd : decide (findS p a < 0) = false := decide_eq_false (by omega)
    have hd2 : decide (findS p b < 0) = false := decide_eq_false (by omega)
    have hr := RootsR15_ok p hp
    have hR := rootsS_len hm
    rw [joinS_two hx]
    generalize findS p a = x at hd
    generalize findS p b = y at hd2
    generalize rootsS p = R at hr hR
    have hj : (R.map fun r => if r = x ∨ r = y then min x y else r) = jnR R x y R.length := jnR_all.symm
    rw [hj]
    by_cases hxy : y < x
    · have hlow : min x y = y := by omega
      have hxy' : (y < x) = True := eq_true hxy
      push_cast -implicitDefEqProofs [eq_self, iff_self, hd, hd2, hxy']
      refine (hr _).mono ?_
      rintro r H' ⟨rfl, rfl⟩
      push_cast -implicitDefEqProofs [eq_self, iff_self, plus_plus, Nat.add_zero, List.length_map]
      refine loop_at hs (σ := Nat) (fun i => i ≤ R.length) (fun i => R.length - i)
        (fun i => [(12, .int i), (11, .rsl H.nxt 1 0 R.length), (8, .int x), (9, .int y), (10, .int y)]) (fun i => [some (.cells 1 ((jnR R x y i).map encI) 0)]) [some 0] 0 (by omega) rfl ?_ ?_ ?_
      · (try push_cast -implicitDefEqProofs [eq_self, iff_self])
      · (try push_cast -implicitDefEqProofs [eq_self, iff_self, jnR_zero])
      intro i hi2
      by_cases hi : i < R.length
      · have hi' : ((i : Int) < (R.length : Int)) = True := by simp; omega
        have hi0 : (0 ≤ (i : Int)) = True := by simp
        have hlen := jnR_len R x y i
        have hget := int_at (p := jnR R x y i) (i := i) (by omega)
        rw [jnR_at hi] at hget
        have hsucc := jnR_succ (x := x) (y := y) hi
        have hat := jnR_at (x := x) (y := y) hi
        generalize R.getD i 0 = v at hget hsucc hat
        have hset2 : ¬ (v = x ∨ v = y) → jnR R x y i = jnR R x y (i + 1) := fun h => by
          rw [hsucc, jnF, if_neg h, ← hat, List.getD_eq_getElem?_getD, List.getElem?_eq_getElem (by rw [jnR_len]; exact hi)]
          exact (List.set_getElem_self _).symm
        have hset1 : (v = x ∨ v = y) → ((jnR R x y i).map encI).set i [AV.lit (.int .i64 y)] = (jnR R x y (i + 1)).map encI := fun h => by
          rw [hsucc, jnF, if_pos h, List.map_set, hlow]; rfl
        by_cases h1 : v = x
        · have e1 : decide (v = x) = true := decide_eq_true h1
          have hs1 := hset1 (.inl h1)
          push_cast -implicitDefEqProofs [eq_self, iff_self, hi', hi0, hget, e1, List.length_map, hlen]
          repeat (refine gskip ?_; push_cast -implicitDefEqProofs [eq_self, iff_self, hi', hi0, hget, e1, List.length_map, hlen])
          rw [wrap64 (by omega) (by omega)]
          refine ⟨by omega, by omega, next_at [some 0] (i + 1) (by omega) (by omega) rfl ?_ ?_⟩
          · (try push_cast -implicitDefEqProofs [eq_self, iff_self])
          · (try push_cast -implicitDefEqProofs [eq_self, iff_self, hs1])
        · have e1 : decide (v = x) = false := decide_eq_false h1
          by_cases h2 : v = y
          · have e2 : decide (v = y) = true := decide_eq_true h2
            have hs1 := hset1 (.inr h2)
            push_cast -implicitDefEqProofs [eq_self, iff_self, hi', hi0, hget, e1, e2, List.length_map, hlen]
            rw [wrap64 (by omega) (by omega)]
            refine ⟨by omega, by omega, by omega, next_at [some 0] (i + 1) (by omega) (by omega) rfl ?_ ?_⟩
            · (try push_cast -implicitDefEqProofs [eq_self, iff_self])
            · (try push_cast -implicitDefEqProofs [eq_self, iff_self, hs1])
          · have e2 : decide (v = y) = false := decide_eq_false h2
            have hs2 := hset2 (by omega)
            push_cast -implicitDefEqProofs [eq_self, iff_self, hi', hi0, hget, e1, e2, List.length_map, hlen]
            rw [wrap64 (by omega) (by omega)]
            refine ⟨by omega, by omega, next_at [some 0] (i + 1) (by omega) (by omega) rfl ?_ ?_⟩
            · (try push_cast -implicitDefEqProofs [eq_self, iff_self])
            · (try push_cast -implicitDefEqProofs [eq_self, iff_self, hs2])
      · have hi' : ((i : Int) < (R.length : Int)) = False := by simp; omega
        obtain rfl : i = R.length := by omega
        have hcap : List.take R.length ((jnR R x y R.length).map encI) = (jnR R x y R.length).map encI := List.take_of_length_le (by rw [List.length_map, jnR_len]; exact Nat.le_refl _)
        have hll := jnR_len R x y R.length
        push_cast -implicitDefEqProofs [eq_self, iff_self, hi', hcap, List.length_map, hll]
    · have hlow : min x y = x := by omega
      have hxy' : (y < x) = False := eq_false hxy
      push_cast -implicitDefEqProofs [eq_self, iff_self, hd, hd2, hxy']
      refine (hr _).mono ?_
      rintro r H' ⟨rfl, rfl⟩
      push_cast -implicitDefEqProofs [eq_self, iff_self, plus_plus, Nat.add_zero, List.length_map]
      refine loop_at hs (σ := Nat) (fun i => i ≤ R.length) (fun i => R.length - i)
        (fun i => [(12, .int i), (11, .rsl H.nxt 1 0 R.length), (8, .int x), (9, .int y), (10, .int x)]) (fun i => [some (.cells 1 ((jnR R x y i).map encI) 0)]) [some 0] 0 (by omega) rfl ?_ ?_ ?_
      · (try push_cast -implicitDefEqProofs [eq_self, iff_self])
      · (try push_cast -implicitDefEqProofs [eq_self, iff_self, jnR_zero])
      intro i hi2
      by_cases hi : i < R.length
      · have hi' : ((i : Int) < (R.length : Int)) = True := by simp; omega
        have hi0 : (0 ≤ (i : Int)) = True := by simp
        have hlen := jnR_len R x y i
        have hget := int_at (p := jnR R x y i) (i := i) (by omega)
        rw [jnR_at hi] at hget
        have hsucc := jnR_succ (x := x) (y := y) hi
        have hat := jnR_at (x := x) (y := y) hi
        generalize R.getD i 0 = v at hget hsucc hat
        have hset2 : ¬ (v = x ∨ v = y) → jnR R x y i = jnR R x y (i + 1) := fun h => by
          rw [hsucc, jnF, if_neg h, ← hat, List.getD_eq_getElem?_getD, List.getElem?_eq_getElem (by rw [jnR_len]; exact hi)]
          exact (List.set_getElem_self _).symm
        have hset1 : (v = x ∨ v = y) → ((jnR R x y i).map encI).set i [AV.lit (.int .i64 x)] = (jnR R x y (i + 1)).map encI := fun h => by
          rw [hsucc, jnF, if_pos h, List.map_set, hlow]; rfl
        by_cases h1 : v = x
        · have e1 : decide (v = x) = true := decide_eq_true h1
          have hs1 := hset1 (.inl h1)
          push_cast -implicitDefEqProofs [eq_self, iff_self, hi', hi0, hget, e1, List.length_map, hlen]
          repeat (refine gskip ?_; push_cast -implicitDefEqProofs [eq_self, iff_self, hi', hi0, hget, e1, List.length_map, hlen])
          rw [wrap64 (by omega) (by omega)]
          refine ⟨by omega, by omega, next_at [some 0] (i + 1) (by omega) (by omega) rfl ?_ ?_⟩
          · (try push_cast -implicitDefEqProofs [eq_self, iff_self])
          · (try push_cast -implicitDefEqProofs [eq_self, iff_self, hs1])
        · have e1 : decide (v = x) = false := decide_eq_false h1
          by_cases h2 : v = y
          · have e2 : decide (v = y) = true := decide_eq_true h2
            have hs1 := hset1 (.inr h2)
            push_cast -implicitDefEqProofs [eq_self, iff_self, hi', hi0, hget, e1, e2, List.length_map, hlen]
            rw [wrap64 (by omega) (by omega)]
            refine ⟨by omega, by omega, by omega, next_at [some 0] (i + 1) (by omega) (by omega) rfl ?_ ?_⟩
            · (try push_cast -implicitDefEqProofs [eq_self, iff_self])
            · (try push_cast -implicitDefEqProofs [eq_self, iff_self, hs1])
          · have e2 : decide (v = y) = false := decide_eq_false h2
            have hs2 := hset2 (by omega)
            push_cast -implicitDefEqProofs [eq_self, iff_self, hi', hi0, hget, e1, e2, List.length_map, hlen]
            rw [wrap64 (by omega) (by omega)]
            refine ⟨by omega, by omega, next_at [some 0] (i + 1) (by omega) (by omega) rfl ?_ ?_⟩
            · (try push_cast -implicitDefEqProofs [eq_self, iff_self])
            · (try push_cast -implicitDefEqProofs [eq_self, iff_self, hs2])
      · have hi' : ((i : Int) < (R.length : Int)) = False := by simp; omega
        obtain rfl : i = R.length := by omega
        have hcap : List.take R.length ((jnR R x y R.length).map encI) = (jnR R x y R.length).map encI := List.take_of_length_le (by rw [List.length_map, jnR_len]; exact Nat.le_refl _)
        have hll := jnR_len R x y R.length
        push_cast -implicitDefEqProofs [eq_self, iff_self, hi', hcap, List.length_map, hll]
end
section
attribute [local push_cast] encIs_pure encNs_pure encN_eq encM_eq plus_obj0 plus_set0 piL_is00 piL_is0 piL_isk encIs_one encNs_four
theorem nodeR_ok (m : Mm) (n : Nd) : Quiet Go.Proofs.Try.prog 78 [encM m, .agg (encN n)] (.bool (m.node n)) := by
  refine quiet_of (rs := #[.tmp 4]) Go.Proofs.Try.func78 rfl rfl rfl mixed rfl rfl fun H hs => ?_
  obtain ⟨j, o, a, b⟩ := n
  cases j
  · have h0 : decide (o < 4) = decide (o ≤ 3) := decide_eq_decide.2 (by omega)
    have hv : m.node ⟨false, o, a, b⟩ = (decide (0 ≤ o) && decide (o ≤ 3) && decide (a = 0) && decide (b = 0)) := by
      rw [node_cut, if_neg Bool.false_ne_true, ← h0]
      simp only
      cases decide (0 ≤ o) <;> cases decide (o < 4) <;> cases decide (a = 0) <;> cases decide (b = 0) <;> rfl
    rw [hv]
    cases h1 : decide (0 ≤ o) with
    | false =>
      push_cast -implicitDefEqProofs [eq_self, iff_self, h1]
      repeat (refine gskip ?_; push_cast -implicitDefEqProofs [eq_self, iff_self, h1])
    | true =>
      cases h2 : decide (o ≤ 3) with
      | false =>
        push_cast -implicitDefEqProofs [eq_self, iff_self, h1, h2]
        repeat (refine gskip ?_; push_cast -implicitDefEqProofs [eq_self, iff_self, h1, h2])
      | true =>
        cases h3 : decide (a = 0) with
        | false =>
          push_cast -implicitDefEqProofs [eq_self, iff_self, h1, h2, h3]
          repeat (refine gskip ?_; push_cast -implicitDefEqProofs [eq_self, iff_self, h1, h2, h3])
        | true =>
          cases h4 : decide (b = 0) with
          | false =>
            push_cast -implicitDefEqProofs [eq_self, iff_self, h1, h2, h3, h4]
            repeat (refine gskip ?_; push_cast -implicitDefEqProofs [eq_self, iff_self, h1, h2, h3, h4])
          | true =>
            push_cast -implicitDefEqProofs [eq_self, iff_self, h1, h2, h3, h4]
  · have hv : m.node ⟨true, o, a, b⟩ = (decide (o = 0) && decide (0 ≤ a) && decide (a < m.P.length) && decide (0 ≤ b) && decide (b < m.P.length)) := by
      rw [node_cut, if_pos rfl, inG_cut, inG_cut]
      simp only [Bool.and_assoc]
    rw [hv]
    cases h1 : decide (o = 0) with
    | false =>
      push_cast -implicitDefEqProofs [eq_self, iff_self, h1, List.length_map]
      repeat (refine gskip ?_; push_cast -implicitDefEqProofs [eq_self, iff_self, h1, List.length_map])
    | true =>
      cases h2 : decide (0 ≤ a) with
      | false =>
        push_cast -implicitDefEqProofs [eq_self, iff_self, h1, h2, List.length_map]
        repeat (refine gskip ?_; push_cast -implicitDefEqProofs [eq_self, iff_self, h1, h2, List.length_map])
      | true =>
        cases h3 : decide (a < (m.P.length : Int)) with
        | false =>
          push_cast -implicitDefEqProofs [eq_self, iff_self, h1, h2, h3, List.length_map]
          repeat (refine gskip ?_; push_cast -implicitDefEqProofs [eq_self, iff_self, h1, h2, h3, List.length_map])
        | true =>
          cases h4 : decide (0 ≤ b) with
          | false =>
            push_cast -implicitDefEqProofs [eq_self, iff_self, h1, h2, h3, h4, List.length_map]
            repeat (refine gskip ?_; push_cast -implicitDefEqProofs [eq_self, iff_self, h1, h2, h3, h4, List.length_map])
          | true =>
            cases h5 : decide (b < (m.P.length : Int)) with
            | false =>
              push_cast -implicitDefEqProofs [eq_self, iff_self, h1, h2, h3, h4, h5, List.length_map]
              repeat (refine gskip ?_; push_cast -implicitDefEqProofs [eq_self, iff_self, h1, h2, h3, h4, h5, List.length_map])
            | true =>
              push_cast -implicitDefEqProofs [eq_self, iff_self, h1, h2, h3, h4, h5, List.length_map]
theorem findR_ok (m : Mm) (hm : m.Small) (g : Int) : Quiet Go.Proofs.Try.prog 64 [encM m, .int g] (.int (m.find g)) := by
  refine quiet_of (rs := #[.tmp 4]) Go.Proofs.Try.func64 rfl rfl rfl mixed rfl rfl fun H hs => ?_
  push_cast -implicitDefEqProofs [eq_self, iff_self]
  refine callq (FindR15_ok m.P hm.2.2 g) ?_
  rw [Mm.find]
  push_cast -implicitDefEqProofs [eq_self, iff_self]
theorem canonR_ok (m : Mm) (hm : m.Small) (n : Nd) : Quiet Go.Proofs.Try.prog 112 [encM m, .agg (encN n)] (.agg (encN (m.canon n))) := by
  have hA := FindR15_ok m.P hm.2.2 n.a
  have hB := FindR15_ok m.P hm.2.2 n.b
  refine quiet_of (rs := #[.cell 4 55]) Go.Proofs.Try.func112 rfl rfl rfl mixed rfl rfl fun H hs => ?_
  push_cast -implicitDefEqProofs [eq_self, iff_self]
  refine callq (nodeR_ok m n) ?_
  push_cast -implicitDefEqProofs [eq_self, iff_self]
  refine callq (MayR15_ok m.P hm.2.2) ?_
  cases hn : m.node n with
  | false =>
    have hc : m.canon n = n := by rw [Mm.canon, hn, Bool.and_false]; rfl
    rw [hc]
    push_cast -implicitDefEqProofs [eq_self, iff_self]
    repeat (refine gskip ?_; push_cast -implicitDefEqProofs [eq_self, iff_self])
  | true =>
    cases hP : mayS m.P with
    | false =>
      have hc : m.canon n = n := by rw [Mm.canon, hP]; rfl
      rw [hc]
      push_cast -implicitDefEqProofs [eq_self, iff_self]
      repeat (refine gskip ?_; push_cast -implicitDefEqProofs [eq_self, iff_self])
    | true =>
      cases hj : n.jn with
      | false =>
        have hc : m.canon n = n := by rw [Mm.canon, hP, hn]; exact canon_leaf hj
        rw [hc]
        push_cast -implicitDefEqProofs [eq_self, iff_self, hj]
      | true =>
        obtain ⟨h0, ⟨a1, a2⟩, b1, b2⟩ := node_join hn hj
        have hc : m.canon n = ⟨true, 0, findS m.P n.a, findS m.P n.b⟩ := by
          rw [Mm.canon, hP, hn]
          show canonR _ n = _
          rw [canonR, if_pos hj, rootsS_at hP (by omega), rootsS_at hP (by omega), h0, hj]
          rw [findS, if_pos (by simp [hP]; omega), findS, if_pos (by simp [hP]; omega)]
        rw [hc]
        generalize findS m.P n.a = x at hA
        generalize findS m.P n.b = y at hB
        push_cast -implicitDefEqProofs [eq_self, iff_self, hj]
        refine areg_at 11 (by kernel_rfl) (by kernel_rfl) ?_
        push_cast -implicitDefEqProofs [eq_self, iff_self]
        refine ahdq hA ?_
        push_cast -implicitDefEqProofs [eq_self, iff_self]
        refine ahdq hB ?_
        push_cast -implicitDefEqProofs [eq_self, iff_self]
theorem canon_cs {m : Mm} (hf : m.form = true) {i : Nat} (hi : i < m.N.length) : m.canon (m.N.getD i nd0) = m.cs.getD i nd0 := by
  rw [Mm.canon, form_P hf, form_N hf hi, cs_at hi]; rfl
theorem find_rg {m : Mm} (hf : m.form = true) {i : Nat} (hi : i < m.N.length) : findS m.P (m.G.getD i 0) = m.rg i := by
  have hG := form_G hf hi
  have h1 := findS_at (form_P hf) (i := (m.G.getD i 0).toNat) (by omega)
  rw [Int.toNat_of_nonneg hG.1] at h1
  rw [h1, rg_at hf hi]
theorem open_here {m : Mm} {i k : Nat} (hi : i < m.N.length) (hk : k < i) (hno : ∀ j, j < i → m.bad j = false) (hin : ∀ k', k' < k → m.cs.getD k' nd0 = m.cs.getD i nd0 → m.rg k' = m.rg i)
    (hs : m.cs.getD i nd0 = m.cs.getD k nd0) (hr : m.rg i ≠ m.rg k) : m.openM = some (m.G.getD k 0, m.G.getD i 0) := by
  have ha : m.at1 i = m.at1 k := by show idxN _ _ = idxN _ _; rw [hs]
  have hak : m.at1 k ≤ k := at1_le (by omega)
  have hbk := hno k hk
  rw [bad_cut] at hbk
  have hbk' : m.rg (m.at1 k) = m.rg k := by simpa using hbk
  have hka : m.at1 i = k := by
    rcases Nat.lt_or_ge (m.at1 i) k with h | h
    · have := hin _ h (at1_at hi)
      rw [ha, hbk'] at this
      exact absurd this.symm hr
    · omega
  have hb : m.bad i = true := by
    rw [bad_cut, hka]
    simp [Ne.symm hr]
  rw [openM_some hi hb hno, hka]
theorem open_not {m : Mm} {i : Nat} (hi : i < m.N.length) (hin : ∀ k', k' < i → m.cs.getD k' nd0 = m.cs.getD i nd0 → m.rg k' = m.rg i) : m.bad i = false := by
  rw [bad_cut]
  rcases Nat.lt_or_ge (m.at1 i) i with h | h
  · rw [hin _ h (at1_at hi)]; simp
  · have : m.at1 i = i := by have := at1_le hi; omega
    rw [this]; simp
set_option maxHeartbeats 4000000 in
theorem openR_ok (m : Mm) (hf : m.form = true) : Quiet Go.Proofs.Try.prog 79 [encM m] (.tup [.int ((m.openM).getD (-1, -1)).1, .int ((m.openM).getD (-1, -1)).2]) := by
  have hm := form_small hf
  have hNl := ((form_iff m).1 hf).2.2.1
  have hGl := ((form_iff m).1 hf).2.1
  refine quiet_of (rs := #[.tmp 2, .tmp 3]) Go.Proofs.Try.func79 rfl rfl rfl mixed rfl rfl fun H hs => ?_
  push_cast -implicitDefEqProofs [eq_self, iff_self]
  refine loop_at hs (σ := Nat) (fun i => i ≤ m.N.length ∧ ∀ j, j < i → m.bad j = false) (fun i => m.N.length - i)
    (fun i => [(4, .int i), (1, .ptr (H.nxt + 0) 3 0 0)]) (fun i => [some (.cells 3 [[.sl (m.N.map encN), .sl (m.G.map encI), .sl (m.P.map encI)]] 0)]) [some 0] 0 ⟨by omega, fun j hj => by omega⟩ rfl ?_ ?_ ?_
  · (try push_cast -implicitDefEqProofs [eq_self, iff_self])
  · (try push_cast -implicitDefEqProofs [eq_self, iff_self])
  rintro i ⟨hi2, hno⟩
  by_cases hi : i < m.N.length
  case neg =>
    obtain rfl : i = m.N.length := by omega
    have hi' : ((m.N.length : Int) < (m.N.length : Int)) = False := by simp
    rw [openM_none hno]
    push_cast -implicitDefEqProofs [eq_self, iff_self, hi', List.length_map]
  have hi' := inb_true hi
  have hi0 : (0 ≤ (i : Int)) = True := by simp
  push_cast -implicitDefEqProofs [eq_self, iff_self, hi', List.length_map]
  refine loop_at hs (σ := Nat) (fun k => k ≤ i ∧ ∀ k', k' < k → m.cs.getD k' nd0 = m.cs.getD i nd0 → m.rg k' = m.rg i) (fun k => i - k)
    (fun k => [(5, .int k), (4, .int i), (1, .ptr (H.nxt + 0) 3 0 0)]) (fun k => [some (.cells 3 [[.sl (m.N.map encN), .sl (m.G.map encI), .sl (m.P.map encI)]] 0)]) [some 0] 0 ⟨by omega, fun j hj => by omega⟩ rfl ?_ ?_ ?_
  · (try push_cast -implicitDefEqProofs [eq_self, iff_self])
  · (try push_cast -implicitDefEqProofs [eq_self, iff_self])
  rintro k ⟨hk2, hin⟩
  by_cases hk : k < i
  case neg =>
    obtain rfl : k = i := by omega
    have hk' : ((k : Int) < (k : Int)) = False := by simp
    have hb := open_not hi hin
    push_cast -implicitDefEqProofs [eq_self, iff_self, hk']
    rw [wrap64 (by omega) (by omega)]
    refine next_at [some 0] (k + 1) ⟨by omega, fun j hj => ?_⟩ (by omega) rfl ?_ ?_
    · rcases Nat.lt_succ_iff_lt_or_eq.1 hj with h | h
      · exact hno j h
      · rw [h]; exact hb
    · (try push_cast -implicitDefEqProofs [eq_self, iff_self])
    · (try push_cast -implicitDefEqProofs [eq_self, iff_self])
  have hk' : ((k : Int) < (i : Int)) = True := by simp; omega
  have hk0 : (0 ≤ (k : Int)) = True := by simp
  have hkN := inb_true (n := k) (k := m.N.length) (by omega)
  have hiG := inb_true (n := i) (k := m.G.length) (by omega)
  have hkG := inb_true (n := k) (k := m.G.length) (by omega)
  have gi1 := encN_get m.N i hi
  have gk1 := encN_get m.N k (by omega)
  have gi2 := int_at (p := m.G) (i := i) (by omega)
  have gk2 := int_at (p := m.G) (i := k) (by omega)
  have ci := canonR_ok m hm (m.N.getD i nd0)
  have ck := canonR_ok m hm (m.N.getD k nd0)
  rw [canon_cs hf hi] at ci
  rw [canon_cs hf (by omega)] at ck
  have fi := FindR15_ok m.P hm.2.2 (m.G.getD i 0)
  have fk := FindR15_ok m.P hm.2.2 (m.G.getD k 0)
  rw [find_rg hf hi] at fi
  rw [find_rg hf (by omega)] at fk
  have hhere := open_here hi hk hno hin
  have hmore : (m.cs.getD k nd0 = m.cs.getD i nd0 → m.rg k = m.rg i) → ∀ k', k' < k + 1 → m.cs.getD k' nd0 = m.cs.getD i nd0 → m.rg k' = m.rg i := fun h k' hk' => by
    rcases Nat.lt_succ_iff_lt_or_eq.1 hk' with h1 | h1
    · exact hin k' h1
    · rw [h1]; exact h
  generalize m.N.getD i nd0 = ni at gi1 ci
  generalize m.N.getD k nd0 = nk at gk1 ck
  generalize m.G.getD i 0 = Gi at gi2 fi hhere
  generalize m.G.getD k 0 = Gk at gk2 fk hhere
  generalize m.cs.getD i nd0 = xi at ci hhere hmore
  generalize m.cs.getD k nd0 = xk at ck hhere hmore
  generalize m.rg i = ri at fi hhere hmore
  generalize m.rg k = rk at fk hhere hmore
  push_cast -implicitDefEqProofs [eq_self, iff_self, hk']
  refine areg_at 8 (by kernel_rfl) (by kernel_rfl) ?_
  push_cast -implicitDefEqProofs [eq_self, iff_self, hi', hi0, List.length_map, gi1]
  refine ahdq ci ?_
  push_cast -implicitDefEqProofs [eq_self, iff_self]
  refine areg_at 8 (by kernel_rfl) (by kernel_rfl) ?_
  push_cast -implicitDefEqProofs [eq_self, iff_self, hkN, hk0, List.length_map, gk1]
  refine ahdq ck ?_
  push_cast -implicitDefEqProofs [eq_self, iff_self]
  refine areg_at 22 (by kernel_rfl) (by kernel_rfl) ?_
  have hcm := cmpN xi.jn xk.jn xi.occ xi.a xi.b xk.occ xk.a xk.b
  have hco : (xi.jn == xk.jn && (decide (xi.occ = xk.occ) && (decide (xi.a = xk.a) && (decide (xi.b = xk.b) && true)))) = eqN xi xk := rfl
  rw [hco] at hcm
  rw [Bool.and_true] at hco
  cases he : eqN xi xk with
  | false =>
    have hne : xk = xi → rk = ri := fun h => by rw [h, eqN_refl] at he; cases he
    rw [he] at hcm hco
    push_cast -implicitDefEqProofs [eq_self, iff_self, lits, cellsEq, cellEq, hcm, hco]
    repeat (refine gcallq .any (fun h => Bool.noConfusion h) ?_; push_cast -implicitDefEqProofs [eq_self, iff_self, lits, cellsEq, cellEq, hcm, hco])
    rw [wrap64 (by omega) (by omega)]
    refine next_at [some 0] (k + 1) ⟨by omega, hmore hne⟩ (by omega) rfl ?_ ?_
    · (try push_cast -implicitDefEqProofs [eq_self, iff_self])
    · (try push_cast -implicitDefEqProofs [eq_self, iff_self])
  | true =>
    have hee := eqN_iff.1 he
    rw [he] at hcm hco
    push_cast -implicitDefEqProofs [eq_self, iff_self, lits, cellsEq, cellEq, hcm, hco, hiG, hkG, hi0, hk0, gi2, gk2, List.length_map]
    refine gcallq (.int ri) (fun _ => fi) ?_
    push_cast -implicitDefEqProofs [eq_self, iff_self, hiG, hkG, hi0, hk0, gi2, gk2, List.length_map]
    refine gcallq (.int rk) (fun _ => fk) ?_
    by_cases hr : ri = rk
    · have hd : decide (ri = rk) = true := decide_eq_true hr
      push_cast -implicitDefEqProofs [eq_self, iff_self, hd, hiG, hkG, hi0, hk0, gi2, gk2, List.length_map]
      rw [wrap64 (by omega) (by omega)]
      refine next_at [some 0] (k + 1) ⟨by omega, hmore (fun _ => hr.symm)⟩ (by omega) rfl ?_ ?_
      · (try push_cast -implicitDefEqProofs [eq_self, iff_self])
      · (try push_cast -implicitDefEqProofs [eq_self, iff_self])
    · have hd : decide (ri = rk) = false := decide_eq_false hr
      rw [hhere hee hr]
      push_cast -implicitDefEqProofs [eq_self, iff_self, hd, hiG, hkG, hi0, hk0, gi2, gk2, List.length_map]
      refine areg_at 11 (by kernel_rfl) (by kernel_rfl) ?_
      push_cast -implicitDefEqProofs [eq_self, iff_self, hd, hiG, hkG, hi0, hk0, gi2, gk2, List.length_map, Option.getD_some]
theorem may_no {m : Mm} (h : m.form = false) : m.may = false := by rw [may_def, h]; rfl
set_option maxHeartbeats 4000000 in
theorem mayR_ok (m : Mm) (hm : m.Small) : Quiet Go.Proofs.Try.prog 47 [encM m] (.bool m.may) := by
  refine quiet_of (rs := #[.tmp 2]) Go.Proofs.Try.func47 rfl rfl rfl mixed rfl rfl fun H hs => ?_
  push_cast -implicitDefEqProofs [eq_self, iff_self]
  refine callq (MayR15_ok m.P hm.2.2) ?_
  cases hP : mayS m.P with
  | false =>
    rw [may_no (by rw [Bool.eq_false_iff]; intro h; rw [form_P h] at hP; cases hP)]
    push_cast -implicitDefEqProofs [eq_self, iff_self]
    repeat (refine gskip ?_; push_cast -implicitDefEqProofs [eq_self, iff_self])
  | true =>
  cases hl : decide ((m.G.length : Int) = m.N.length) with
  | false =>
    have hl' := of_decide_eq_false hl
    rw [may_no (by rw [Bool.eq_false_iff]; intro h; have := ((form_iff m).1 h).2.1; omega)]
    push_cast -implicitDefEqProofs [eq_self, iff_self, hl, List.length_map]
    repeat (refine gskip ?_; push_cast -implicitDefEqProofs [eq_self, iff_self, hl, List.length_map])
  | true =>
  have hl' := of_decide_eq_true hl
  cases h4 : decide ((400 : Int) < m.N.length) with
  | true =>
    have h4' := of_decide_eq_true h4
    rw [may_no (by rw [Bool.eq_false_iff]; intro h; have := ((form_iff m).1 h).2.2.1; omega)]
    push_cast -implicitDefEqProofs [eq_self, iff_self, hl, h4, List.length_map]
  | false =>
  have h4' := of_decide_eq_false h4
  push_cast -implicitDefEqProofs [eq_self, iff_self, hl, h4, List.length_map]
  refine loop_at hs (σ := Nat) (fun i => i ≤ m.N.length ∧ ∀ j, j < i → m.node (m.N.getD j nd0) = true ∧ m.inG (m.G.getD j 0) = true) (fun i => m.N.length - i)
    (fun i => [(4, .int i), (1, .ptr (H.nxt + 0) 3 0 0)]) (fun i => [some (.cells 3 [[.sl (m.N.map encN), .sl (m.G.map encI), .sl (m.P.map encI)]] 0)]) [some 0] 0 ⟨by omega, fun j hj => by omega⟩ rfl ?_ ?_ ?_
  · (try push_cast -implicitDefEqProofs [eq_self, iff_self])
  · (try push_cast -implicitDefEqProofs [eq_self, iff_self])
  rintro i ⟨hi2, hall⟩
  by_cases hi : i < m.N.length
  case neg =>
    obtain rfl : i = m.N.length := by omega
    have hi' : ((m.N.length : Int) < (m.N.length : Int)) = False := by simp
    have hf : m.form = true := (form_iff m).2 ⟨hP, by omega, by omega, fun g hg => by
      obtain ⟨j, hj, rfl⟩ := List.getElem_of_mem hg
      have := (hall j (by omega)).2
      rwa [List.getD_eq_getElem?_getD, List.getElem?_eq_getElem hj] at this, fun n hn => by
      obtain ⟨j, hj, rfl⟩ := List.getElem_of_mem hn
      have := (hall j hj).1
      rwa [List.getD_eq_getElem?_getD, List.getElem?_eq_getElem hj] at this⟩
    have hop := openR_ok m hf
    have hop2 : ∀ x, m.openM = some x → 0 ≤ x.1 := fun x hx => by
      obtain ⟨i, k, _, _, _, rfl, _⟩ := openM_at hf hx
      exact Int.natCast_nonneg _
    rw [may_def, hf]
    cases ho : m.openM with
    | none =>
      rw [ho] at hop
      push_cast -implicitDefEqProofs [eq_self, iff_self, hi', List.length_map]
      refine callq hop ?_
      push_cast -implicitDefEqProofs [eq_self, iff_self, Option.getD_none, Option.isNone_none]
    | some x =>
      rw [ho] at hop
      have hx := hop2 x ho
      have hx' : decide (x.1 < 0) = false := decide_eq_false (by omega)
      push_cast -implicitDefEqProofs [eq_self, iff_self, hi', List.length_map]
      refine callq hop ?_
      push_cast -implicitDefEqProofs [eq_self, iff_self, Option.getD_some, Option.isNone_some, hx']
  have hi' := inb_true hi
  have hi0 : (0 ≤ (i : Int)) = True := by simp
  have hiG := inb_true (n := i) (k := m.G.length) (by omega)
  have gn := encN_get m.N i hi
  have gg := int_at (p := m.G) (i := i) (by omega)
  have hno : m.node (m.N.getD i nd0) = false ∨ m.inG (m.G.getD i 0) = false → m.may = false := fun h => by
    refine may_no ?_
    rw [Bool.eq_false_iff]
    intro hf
    have h1 := form_N hf hi
    have h2 := form_G hf hi
    rcases h with h | h
    · rw [h] at h1; cases h1
    · rw [inG_cut, Bool.and_eq_false_iff, decide_eq_false_iff_not, decide_eq_false_iff_not] at h; omega
  have hmore : m.node (m.N.getD i nd0) = true → m.inG (m.G.getD i 0) = true → ∀ j, j < i + 1 → m.node (m.N.getD j nd0) = true ∧ m.inG (m.G.getD j 0) = true := fun h1 h2 j hj => by
    rcases Nat.lt_succ_iff_lt_or_eq.1 hj with h | h
    · exact hall j h
    · rw [h]; exact ⟨h1, h2⟩
  have hnd := nodeR_ok m (m.N.getD i nd0)
  rw [inG_cut] at hno hmore
  generalize m.N.getD i nd0 = n at gn hno hmore hnd
  generalize m.G.getD i 0 = g at gg hno hmore
  push_cast -implicitDefEqProofs [eq_self, iff_self, hi', List.length_map]
  refine areg_at 7 (by kernel_rfl) (by kernel_rfl) ?_
  push_cast -implicitDefEqProofs [eq_self, iff_self, hi', hi0, List.length_map, gn]
  refine ahdq hnd ?_
  push_cast -implicitDefEqProofs [eq_self, iff_self]
  refine areg_at 21 (by kernel_rfl) (by kernel_rfl) ?_
  cases h1 : m.node n with
  | false =>
    rw [hno (.inl h1)]
    push_cast -implicitDefEqProofs [eq_self, iff_self, hiG, hi0, gg, List.length_map]
  | true =>
  cases h2 : decide (g < 0) with
  | true =>
    have h2' := of_decide_eq_true h2
    rw [hno (.inr (by rw [Bool.and_eq_false_iff, decide_eq_false_iff_not]; omega))]
    push_cast -implicitDefEqProofs [eq_self, iff_self, hiG, hi0, gg, h2, List.length_map]
  | false =>
  have h2' := of_decide_eq_false h2
  cases h3 : decide ((m.P.length : Int) ≤ g) with
  | true =>
    have h3' := of_decide_eq_true h3
    rw [hno (.inr (by rw [Bool.and_eq_false_iff, decide_eq_false_iff_not, decide_eq_false_iff_not]; omega))]
    push_cast -implicitDefEqProofs [eq_self, iff_self, hiG, hi0, gg, h2, h3, List.length_map]
  | false =>
    have h3' := of_decide_eq_false h3
    push_cast -implicitDefEqProofs [eq_self, iff_self, hiG, hi0, gg, h2, h3, List.length_map]
    rw [wrap64 (by omega) (by omega)]
    refine next_at [some 0] (i + 1) ⟨by omega, hmore h1 (by rw [Bool.and_eq_true, decide_eq_true_eq, decide_eq_true_eq]; omega)⟩ (by omega) rfl ?_ ?_
    · (try push_cast -implicitDefEqProofs [eq_self, iff_self])
    · (try push_cast -implicitDefEqProofs [eq_self, iff_self])
def placeM (m : Mm) (c : Nd) : Int := if idxN c m.cs < m.N.length then (idxN c m.cs : Nat) else -1
theorem idxN_none {c : Nd} {l : List Nd} (h : ∀ j, j < l.length → l.getD j nd0 ≠ c) : ¬ idxN c l < l.length := fun h1 => h _ h1 (idxN_at h1)
theorem idxN_is {c : Nd} {l : List Nd} {k : Nat} (hk : k < l.length) (h : l.getD k nd0 = c) (hno : ∀ j, j < k → l.getD j nd0 ≠ c) : idxN c l = k := by
  rcases Nat.lt_trichotomy (idxN c l) k with h1 | h1 | h1
  · exact absurd (idxN_at (by omega)) (hno _ h1)
  · exact h1
  · exact absurd h (idxN_first h1)
theorem placeR_ok (m : Mm) (hf : m.form = true) (c : Nd) : Quiet Go.Proofs.Try.prog 116 [encM m, .agg (encN c)] (.int (placeM m c)) := by
  have hm := form_small hf
  have hNl := ((form_iff m).1 hf).2.2.1
  have hcl := cs_len m
  refine quiet_of (rs := #[.tmp 4]) Go.Proofs.Try.func116 rfl rfl rfl mixed rfl rfl fun H hs => ?_
  push_cast -implicitDefEqProofs [eq_self, iff_self]
  refine loop_at hs (σ := Nat) (fun i => i ≤ m.N.length ∧ ∀ j, j < i → m.cs.getD j nd0 ≠ c) (fun i => m.N.length - i)
    (fun i => [(5, .int i), (2, .ptr (H.nxt + 0) 3 0 0), (3, .ptr (H.nxt + 1) 4 0 0)]) (fun i => [some (.cells 3 [[.sl (m.N.map encN), .sl (m.G.map encI), .sl (m.P.map encI)]] 0), some (.cells 4 [encN c] 0)]) [some 0, some 1] 0 ⟨by omega, fun j hj => by omega⟩ rfl ?_ ?_ ?_
  · (try push_cast -implicitDefEqProofs [eq_self, iff_self])
  · (try push_cast -implicitDefEqProofs [eq_self, iff_self])
  rintro i ⟨hi2, hno⟩
  by_cases hi : i < m.N.length
  case neg =>
    obtain rfl : i = m.N.length := by omega
    have hi' : ((m.N.length : Int) < (m.N.length : Int)) = False := by simp
    have hp : placeM m c = -1 := by rw [placeM, if_neg (by rw [← hcl]; exact idxN_none (fun j hj => hno j (by omega)))]
    rw [hp]
    push_cast -implicitDefEqProofs [eq_self, iff_self, hi', List.length_map]
  have hi' := inb_true hi
  have hi0 : (0 ≤ (i : Int)) = True := by simp
  have gn := encN_get m.N i hi
  have ci := canonR_ok m hm (m.N.getD i nd0)
  rw [canon_cs hf hi] at ci
  have hhit : m.cs.getD i nd0 = c → placeM m c = i := fun h => by
    have := idxN_is (by omega) h hno
    rw [placeM, this, if_pos hi]
  have hmore : m.cs.getD i nd0 ≠ c → ∀ j, j < i + 1 → m.cs.getD j nd0 ≠ c := fun h j hj => by
    rcases Nat.lt_succ_iff_lt_or_eq.1 hj with h1 | h1
    · exact hno j h1
    · rw [h1]; exact h
  generalize m.N.getD i nd0 = ni at gn ci
  generalize m.cs.getD i nd0 = x at ci hhit hmore
  push_cast -implicitDefEqProofs [eq_self, iff_self, hi', List.length_map]
  refine areg_at 8 (by kernel_rfl) (by kernel_rfl) ?_
  push_cast -implicitDefEqProofs [eq_self, iff_self, hi', hi0, List.length_map, gn]
  refine ahdq ci ?_
  have hcm := cmpN x.jn c.jn x.occ x.a x.b c.occ c.a c.b
  have hco : (x.jn == c.jn && (decide (x.occ = c.occ) && (decide (x.a = c.a) && (decide (x.b = c.b) && true)))) = eqN x c := rfl
  rw [hco] at hcm
  rw [Bool.and_true] at hco
  cases he : eqN x c with
  | true =>
    rw [hhit (eqN_iff.1 he)]
    rw [he] at hcm hco
    push_cast -implicitDefEqProofs [eq_self, iff_self, lits, cellsEq, cellEq, hcm, hco]
  | false =>
    have hne : x ≠ c := fun h => by rw [h, eqN_refl] at he; cases he
    rw [he] at hcm hco
    push_cast -implicitDefEqProofs [eq_self, iff_self, lits, cellsEq, cellEq, hcm, hco]
    rw [wrap64 (by omega) (by omega)]
    refine next_at [some 0, some 1] (i + 1) ⟨by omega, hmore hne⟩ (by omega) rfl ?_ ?_
    · (try push_cast -implicitDefEqProofs [eq_self, iff_self])
    · (try push_cast -implicitDefEqProofs [eq_self, iff_self])
theorem lookR_ok (m : Mm) (hm : m.Small) (n : Nd) : Quiet Go.Proofs.Try.prog 91 [encM m, .agg (encN n)] (.tup [.int (m.look n).1, .bool (m.look n).2]) := by
  refine quiet_of (rs := #[.tmp 4, .tmp 5]) Go.Proofs.Try.func91 rfl rfl rfl mixed rfl rfl fun H hs => ?_
  push_cast -implicitDefEqProofs [eq_self, iff_self]
  refine callq (mayR_ok m hm) ?_
  push_cast -implicitDefEqProofs [eq_self, iff_self]
  refine callq (nodeR_ok m n) ?_
  cases hmay : m.may with
  | false =>
    have hl : m.look n = (-1, false) := by rw [Mm.look, hmay]; rfl
    rw [hl]
    push_cast -implicitDefEqProofs [eq_self, iff_self]
    repeat (refine gskip ?_; push_cast -implicitDefEqProofs [eq_self, iff_self])
  | true =>
  cases hn : m.node n with
  | false =>
    have hl : m.look n = (-1, false) := by rw [Mm.look, hmay, hn]; rfl
    rw [hl]
    push_cast -implicitDefEqProofs [eq_self, iff_self]
  | true =>
  have hf := may_f hmay
  have hGl := ((form_iff m).1 hf).2.1
  have hcan : m.canon n = canonR (rootsS m.P) n := by rw [Mm.canon, form_P hf, hn]; rfl
  have hC := canonR_ok m hm n
  have hPl := placeR_ok m hf (m.canon n)
  have hlk : m.look n = if idxN (m.canon n) m.cs < m.N.length then (m.find (m.G.getD (idxN (m.canon n) m.cs) 0), true) else (-1, false) := by
    rw [Mm.look, hmay, hn, hcan]; rfl
  rw [hlk]
  rw [placeM] at hPl
  generalize m.canon n = c at hC hPl
  push_cast -implicitDefEqProofs [eq_self, iff_self]
  refine areg_at 5 (by kernel_rfl) (by kernel_rfl) ?_
  push_cast -implicitDefEqProofs [eq_self, iff_self]
  refine ahdq hC ?_
  push_cast -implicitDefEqProofs [eq_self, iff_self]
  refine ahdq hPl ?_
  by_cases hi : idxN c m.cs < m.N.length
  · rw [if_pos hi, if_pos hi]
    generalize idxN c m.cs = i at hi
    have hi' : ((i : Int) < 0) = False := by simp
    have hi0 : (0 ≤ (i : Int)) = True := by simp
    have hiG := inb_true (n := i) (k := m.G.length) (by omega)
    have gg := int_at (p := m.G) (i := i) (by omega)
    have hF := findR_ok m hm (m.G.getD i 0)
    generalize m.G.getD i 0 = g at gg hF
    push_cast -implicitDefEqProofs [eq_self, iff_self, hi']
    refine areg_at 7 (by kernel_rfl) (by kernel_rfl) ?_
    push_cast -implicitDefEqProofs [eq_self, iff_self, hi0, hiG, gg, List.length_map]
    refine ahdq hF ?_
    push_cast -implicitDefEqProofs [eq_self, iff_self]
  · rw [if_neg hi, if_neg hi]
    push_cast -implicitDefEqProofs [eq_self, iff_self]
end
section
attribute [local push_cast] encIs_pure encNs_pure encN_eq encM_eq plus_obj0 plus_set0 piL_is00 piL_is0 piL_isk encIs_one encNs_four
structure MgR where
  P : List Int
  x : Int
  y : Int
  f : Nat
def MgRI (m W : Mm) (s : MgR) : Prop := (Mm.mk m.N m.G s.P).form = true ∧ s.P.length = m.P.length ∧ ((0 ≤ s.x ∧ s.x < m.P.length ∧ 0 ≤ s.y ∧ s.y < m.P.length ∧ enough ⟨m.N, m.G, s.P⟩ s.x s.y s.f ∧ mergeF s.f ⟨m.N, m.G, s.P⟩ s.x s.y = W) ∨ (s.x < 0 ∧ s.f = 0 ∧ Mm.mk m.N m.G s.P = W))
set_option maxHeartbeats 4000000 in
theorem mergeR_ok (m : Mm) (hm : m.Small) (a b : Int) : Quiet Go.Proofs.Try.prog 92 [encM m, .int a, .int b] (.tup [encM (m.merge a b).1, .int (m.merge a b).2.1, .int (m.merge a b).2.2]) := by
  refine quiet_of (rs := #[.cell 6 25, .tmp 7, .tmp 8]) Go.Proofs.Try.func92 rfl rfl rfl mixed rfl rfl fun H hs => ?_
  push_cast -implicitDefEqProofs [eq_self, iff_self]
  refine callq (mayR_ok m hm) ?_
  by_cases hc : m.may = true ∧ (0 ≤ a ∧ a < m.P.length) ∧ 0 ≤ b ∧ b < m.P.length
  case neg =>
    have hv : m.merge a b = (m, -1, 1) := by
      rw [Mm.merge, if_neg]
      simp only [inG_cut, Bool.and_eq_true, decide_eq_true_eq]
      exact fun h => hc ⟨h.1.1, h.1.2, h.2⟩
    rw [hv]
    cases hmay : m.may with
    | false =>
      push_cast -implicitDefEqProofs [eq_self, iff_self]
      repeat (refine gskip ?_; push_cast -implicitDefEqProofs [eq_self, iff_self])
    | true =>
    cases h1 : decide (a < 0) with
    | true =>
      push_cast -implicitDefEqProofs [eq_self, iff_self, h1]
      repeat (refine gskip ?_; push_cast -implicitDefEqProofs [eq_self, iff_self, h1])
    | false =>
    cases h2 : decide (b < 0) with
    | true =>
      push_cast -implicitDefEqProofs [eq_self, iff_self, h1, h2]
      repeat (refine gskip ?_; push_cast -implicitDefEqProofs [eq_self, iff_self, h1, h2])
    | false =>
    cases h3 : decide ((m.P.length : Int) ≤ a) with
    | true =>
      push_cast -implicitDefEqProofs [eq_self, iff_self, h1, h2, h3, List.length_map]
      repeat (refine gskip ?_; push_cast -implicitDefEqProofs [eq_self, iff_self, h1, h2, h3, List.length_map])
    | false =>
    cases h4 : decide ((m.P.length : Int) ≤ b) with
    | true =>
      push_cast -implicitDefEqProofs [eq_self, iff_self, h1, h2, h3, h4, List.length_map]
    | false =>
      have k1 := of_decide_eq_false h1
      have k2 := of_decide_eq_false h2
      have k3 := of_decide_eq_false h3
      have k4 := of_decide_eq_false h4
      exact absurd ⟨hmay, ⟨by omega, by omega⟩, by omega, by omega⟩ hc
  obtain ⟨hmay, ⟨ha0, ha1⟩, hb0, hb1⟩ := hc
  have hf := may_f hmay
  have hP := form_P hf
  have hv : m.merge a b = (mergeF (m.P.length + 1) m a b, (mergeF (m.P.length + 1) m a b).find a, 0) := by
    rw [Mm.merge, if_pos]
    simp only [inG_cut, Bool.and_eq_true, decide_eq_true_eq]
    exact ⟨⟨hmay, ha0, ha1⟩, hb0, hb1⟩
  rw [hv]
  have h1 : decide (a < 0) = false := decide_eq_false (by omega)
  have h2 : decide (b < 0) = false := decide_eq_false (by omega)
  have h3 : decide ((m.P.length : Int) ≤ a) = false := decide_eq_false (by omega)
  have h4 : decide ((m.P.length : Int) ≤ b) = false := decide_eq_false (by omega)
  rw [hmay]
  have hstart : MgRI m (mergeF (m.P.length + 1) m a b) ⟨m.P, a, b, m.P.length + 1⟩ := ⟨hf, rfl, .inl ⟨ha0, ha1, hb0, hb1, enough_first hP a b, rfl⟩⟩
  have hWf := mergeF_form (m.P.length + 1) a b hf
  generalize mergeF (m.P.length + 1) m a b = W at hstart hWf
  push_cast -implicitDefEqProofs [eq_self, iff_self, h1, h2, h3, h4, List.length_map]
  refine loop_at hs (σ := MgR) (MgRI m W) (fun s => s.f)
    (fun s => [(10, .int s.x), (11, .int s.y), (1, .int a), (3, .ptr (H.nxt + 0) 3 0 0), (6, .ptr (H.nxt + 1) 3 0 0)]) (fun s => [some (.cells 3 [[.sl (m.N.map encN), .sl (m.G.map encI), .sl (s.P.map encI)]] 0), some (.cells 3 [[.nilS, .nilS, .nilS]] 0)]) [some 0, some 1] ⟨m.P, a, b, m.P.length + 1⟩ hstart rfl ?_ ?_ ?_
  · (try push_cast -implicitDefEqProofs [eq_self, iff_self])
  · (try push_cast -implicitDefEqProofs [eq_self, iff_self])
  rintro ⟨P, x, y, f⟩ ⟨hPf, hPl, hcase⟩
  dsimp only at hPf hPl hcase
  have hsP : P.length ≤ 1000000 := by have := mayS_max (form_P hPf); show P.length ≤ _; have h : (Mm.mk m.N m.G P).P.length = P.length := rfl; omega
  rcases hcase with ⟨hx0, hx1, hy0, hy1, hen, hW⟩ | ⟨hx0, hf0, hW⟩
  · obtain ⟨g, rfl⟩ := enough_pos hen
    have hJ := JoinR15_ok P hsP x y
    have hjf : (Mm.mk m.N m.G (joinS P x y).1).form = true := joined_form hPf x y
    have hO := openR_ok _ hjf
    have hjl : (joinS P x y).1.length = P.length := joinS_length P x y
    have hx' : (0 ≤ x) = True := eq_true hx0
    cases ho : ((Mm.mk m.N m.G P).joined x y).openM with
    | none =>
      rw [mergeF_end ho] at hW
      have ho' : (Mm.mk m.N m.G (joinS P x y).1).openM = none := ho
      rw [ho'] at hO
      have hW' : Mm.mk m.N m.G (joinS P x y).1 = W := hW
      generalize (joinS P x y).2 = bb at hJ
      generalize (joinS P x y).1 = P2 at hJ hjf hO hjl hW'
      push_cast -implicitDefEqProofs [eq_self, iff_self, hx']
      refine callq hJ ?_
      push_cast -implicitDefEqProofs [eq_self, iff_self]
      refine callq hO ?_
      push_cast -implicitDefEqProofs [eq_self, iff_self, Option.getD_none]
      refine next_at [some 0, some 1] ⟨P2, -1, -1, 0⟩ ⟨hjf, by show P2.length = _; omega, .inr ⟨by show (-1 : Int) < 0; decide, rfl, hW'⟩⟩ (by show 0 < g + 1; omega) rfl ?_ ?_
      · (try push_cast -implicitDefEqProofs [eq_self, iff_self])
      · (try push_cast -implicitDefEqProofs [eq_self, iff_self])
    | some z =>
      rw [mergeF_more ho] at hW
      have hen2 := enough_next hPf hen ho
      obtain ⟨i, k, hi, hk, _, hz, _⟩ := openM_at hjf ho
      have hiP := gi_lt hjf hi
      have hkP := gi_lt hjf hk
      have ho' : (Mm.mk m.N m.G (joinS P x y).1).openM = some z := ho
      rw [ho'] at hO
      have hW' : mergeF g (Mm.mk m.N m.G (joinS P x y).1) z.1 z.2 = W := hW
      have hen2' : enough (Mm.mk m.N m.G (joinS P x y).1) z.1 z.2 g := hen2
      have hz1 : 0 ≤ z.1 ∧ z.1 < m.P.length ∧ 0 ≤ z.2 ∧ z.2 < m.P.length := by
        have e1 : (Mm.mk m.N m.G (joinS P x y).1).P.length = m.P.length := by show (joinS P x y).1.length = _; omega
        rw [e1] at hiP hkP
        rw [hz]
        dsimp only
        omega
      generalize (joinS P x y).2 = bb at hJ
      generalize (joinS P x y).1 = P2 at hJ hjf hO hjl hW' hen2'
      push_cast -implicitDefEqProofs [eq_self, iff_self, hx']
      refine callq hJ ?_
      push_cast -implicitDefEqProofs [eq_self, iff_self]
      refine callq hO ?_
      push_cast -implicitDefEqProofs [eq_self, iff_self, Option.getD_some]
      refine next_at [some 0, some 1] ⟨P2, z.1, z.2, g⟩ ⟨hjf, by show P2.length = _; omega, .inl ⟨hz1.1, hz1.2.1, hz1.2.2.1, hz1.2.2.2, hen2', hW'⟩⟩ (by show g < g + 1; omega) rfl ?_ ?_
      · (try push_cast -implicitDefEqProofs [eq_self, iff_self])
      · (try push_cast -implicitDefEqProofs [eq_self, iff_self])
  · have hx' : (0 ≤ x) = False := eq_false (by omega)
    have hF := findR_ok W (form_small hWf) a
    rw [← hW] at hF ⊢
    generalize (Mm.mk m.N m.G P).find a = v at hF ⊢
    push_cast -implicitDefEqProofs [eq_self, iff_self, hx']
    refine .inl (areg_ord (fun D => if D 4 = true then H.plus [some (.cells 3 [[.sl (m.N.map encN), .sl (m.G.map encI), .sl (P.map encI)]] 0), some (.cells 3 [[.sl (m.N.map encN), .sl (m.G.map encI), .sl (P.map encI)]] 0)] else H.plus [some (.cells 3 [[.sl (m.N.map encN), .sl (m.G.map encI), .sl (P.map encI)]] 0), some (.cells 3 [[.nilS, .nilS, .nilS]] 0)]) (fun q9 => [AV.agg [.sl (m.N.map encN), .sl (m.G.map encI), .sl (P.map encI)], AV.agg [.sl (m.N.map encN), .sl (m.G.map encI), .sl (P.map encI)], AV.int a, AV.int v, AV.any, AV.int v, AV.int 0].getD q9 .any) (by kernel_rfl) (by kernel_rfl) ?_ ?_)
    · intro i0 o T D C ho hDi hdep hclo hT hC
      have hc : i0 = 0 ∨ i0 = 1 ∨ i0 = 2 ∨ i0 = 3 ∨ i0 = 4 ∨ i0 = 5 ∨ i0 = 6 := by
        have := (Array.getElem?_eq_some_iff.1 ho).1
        simp only [List.size_toArray, List.length_cons, List.length_nil] at this
        omega
      have t1 := hT.low 1 rfl
      have t3 := hT.low 3 rfl
      have t6 := hT.low 6 rfl
      try dsimp only at hC ⊢
      rcases hc with rfl | rfl | rfl | rfl | rfl | rfl | rfl
      all_goals
        simp only [List.getElem?_toArray, List.getElem?_cons_zero, List.getElem?_cons_succ, Option.some.injEq] at ho
        subst ho
      · skip
        have e4 : D 4 = false := by
          cases h : D 4 with
          | false => rfl
          | true =>
            have h2 := (hclo 4 _ rfl h 0 rfl)
            rw [hDi] at h2
            cases h2
        rw [if_neg (by rw [e4]; decide)]
        rw [if_neg (by rw [show addD D 0 4 = D 4 from rfl, e4]; decide)] at hC
        push_cast -implicitDefEqProofs [eq_self, iff_self, t1, t3, t6, List.getD_cons_zero, List.getD_cons_succ, List.length_cons, List.length_nil]
        exact hC
      · skip
        have e4 : D 4 = false := by
          cases h : D 4 with
          | false => rfl
          | true =>
            have h2 := (hclo 3 _ rfl (hclo 4 _ rfl h 3 rfl) 1 rfl)
            rw [hDi] at h2
            cases h2
        rw [if_neg (by rw [e4]; decide)]
        rw [if_neg (by rw [show addD D 1 4 = D 4 from rfl, e4]; decide)] at hC
        push_cast -implicitDefEqProofs [eq_self, iff_self, t1, t3, t6, List.getD_cons_zero, List.getD_cons_succ, List.length_cons, List.length_nil]
        exact hC
      · skip
        have e4 : D 4 = false := by
          cases h : D 4 with
          | false => rfl
          | true =>
            have h2 := (hclo 3 _ rfl (hclo 4 _ rfl h 3 rfl) 2 rfl)
            rw [hDi] at h2
            cases h2
        rw [if_neg (by rw [e4]; decide)]
        rw [if_neg (by rw [show addD D 2 4 = D 4 from rfl, e4]; decide)] at hC
        push_cast -implicitDefEqProofs [eq_self, iff_self, t1, t3, t6, List.getD_cons_zero, List.getD_cons_succ, List.length_cons, List.length_nil]
        exact hC
      · skip
        have d1 := hT.put 1 61 (hdep 1 rfl) rfl
        have d2 := hT.put 2 62 (hdep 2 rfl) rfl
        have e4 : D 4 = false := by
          cases h : D 4 with
          | false => rfl
          | true =>
            have h2 := (hclo 4 _ rfl h 3 rfl)
            rw [hDi] at h2
            cases h2
        rw [if_neg (by rw [e4]; decide)]
        rw [if_neg (by rw [show addD D 3 4 = D 4 from rfl, e4]; decide)] at hC
        push_cast -implicitDefEqProofs [eq_self, iff_self, t1, t3, t6, d1, d2, List.getD_cons_zero, List.getD_cons_succ, List.length_cons, List.length_nil]
        refine callq hF ?_
        exact hC
      · skip
        have d0 := hT.put 0 60 (hdep 0 rfl) rfl
        have e4 : D 4 = false := hDi
        rw [if_neg (by rw [e4]; decide)]
        rw [if_pos (show addD D 4 4 = true from rfl)] at hC
        push_cast -implicitDefEqProofs [eq_self, iff_self, t1, t3, t6, d0, List.getD_cons_zero, List.getD_cons_succ, List.length_cons, List.length_nil]
        exact hC
      · skip
        have d3 := hT.put 3 63 (hdep 3 rfl) rfl
        have e4 : D 4 = true := (hdep 4 rfl)
        rw [if_pos e4]
        rw [if_pos (show addD D 5 4 = true from e4)] at hC
        push_cast -implicitDefEqProofs [eq_self, iff_self, t1, t3, t6, d3, List.getD_cons_zero, List.getD_cons_succ, List.length_cons, List.length_nil]
        exact hC
      · skip
        have e4 : D 4 = true := (hdep 4 rfl)
        rw [if_pos e4]
        rw [if_pos (show addD D 6 4 = true from e4)] at hC
        push_cast -implicitDefEqProofs [eq_self, iff_self, t1, t3, t6, List.getD_cons_zero, List.getD_cons_succ, List.length_cons, List.length_nil]
        exact hC
    · intro T D hD hT
      try dsimp only
      rw [if_pos (hD 4 (by decide))]
      have d5 := hT.put 5 7 (hD 5 (by decide)) rfl
      have d6 := hT.put 6 8 (hD 6 (by decide)) rfl
      have t6 := hT.low 6 rfl
      push_cast -implicitDefEqProofs [eq_self, iff_self, d5, d6, t6]
end
section
attribute [local push_cast] encIs_pure encNs_pure encN_eq encM_eq plus_obj0 plus_set0 piL_is00 piL_is0 piL_isk encIs_one encNs_four
theorem put_bad {m : Mm} {n : Nd} {g : Int} (h : ¬ (m.may = true ∧ m.node n = true ∧ -1 ≤ g ∧ g < m.P.length)) : m.put n g = (m, -1, 1) := by
  rw [put_def, if_pos]
  cases h1 : m.may with
  | false => rfl
  | true =>
  cases h2 : m.node n with
  | false => rfl
  | true =>
    have h3 : ¬ (-1 ≤ g ∧ g < m.P.length) := fun h3 => h ⟨h1, h2, h3⟩
    have h4 : decide (g = -1) = false := decide_eq_false (by omega)
    have h5 : m.inG g = false := by rw [inG_cut, Bool.and_eq_false_iff, decide_eq_false_iff_not, decide_eq_false_iff_not]; omega
    rw [h4, h5]; rfl
theorem put_in {m : Mm} {n : Nd} {g : Int} (h1 : m.may = true) (h2 : m.node n = true) (h3 : -1 ≤ g ∧ g < m.P.length) : m.put n g = if (m.look n).2 then (if g = -1 ∨ m.find g = (m.look n).1 then (m, (m.look n).1, 0) else m.merge g (m.look n).1)
    else if m.N.length = 400 ∨ (g = -1 ∧ m.P.length = 400) then (m, -1, 3)
    else if g = -1 then (⟨m.N ++ [n], m.G ++ [(m.P.length : Int)], m.P ++ [(m.P.length : Int)]⟩, findS (m.P ++ [(m.P.length : Int)]) m.P.length, 0)
    else (⟨m.N ++ [n], m.G ++ [g], m.P⟩, m.find g, 0) := by
  rw [put_def, if_neg]
  have h4 : (decide (g = -1) || m.inG g) = true := by
    by_cases h : g = -1
    · rw [decide_eq_true h]; rfl
    · have : m.inG g = true := by rw [inG_cut, Bool.and_eq_true, decide_eq_true_eq, decide_eq_true_eq]; omega
      rw [this, Bool.or_true]
  rw [h1, h2, h4]
  decide
set_option maxHeartbeats 4000000 in
theorem putR_ok (m : Mm) (hm : m.Small) (n : Nd) (g : Int) : Quiet Go.Proofs.Try.prog 59 [encM m, .agg (encN n), .int g] (.tup [encM (m.put n g).1, .int (m.put n g).2.1, .int (m.put n g).2.2]) := by
  refine quiet_of (rs := #[.cell 6 25, .tmp 7, .tmp 8]) Go.Proofs.Try.func59 rfl rfl rfl mixed rfl rfl fun H hs => ?_
  push_cast -implicitDefEqProofs [eq_self, iff_self]
  refine callq (mayR_ok m hm) ?_
  push_cast -implicitDefEqProofs [eq_self, iff_self]
  refine callq (nodeR_ok m n) ?_
  by_cases hc : m.may = true ∧ m.node n = true ∧ -1 ≤ g ∧ g < m.P.length
  case neg =>
    rw [put_bad hc]
    cases h1 : m.may with
    | false =>
      push_cast -implicitDefEqProofs [eq_self, iff_self]
      repeat (refine gskip ?_; push_cast -implicitDefEqProofs [eq_self, iff_self])
    | true =>
    cases h2 : m.node n with
    | false =>
      push_cast -implicitDefEqProofs [eq_self, iff_self]
      repeat (refine gskip ?_; push_cast -implicitDefEqProofs [eq_self, iff_self])
    | true =>
    cases h3 : decide (g < -1) with
    | true =>
      push_cast -implicitDefEqProofs [eq_self, iff_self, h3]
      repeat (refine gskip ?_; push_cast -implicitDefEqProofs [eq_self, iff_self, h3])
    | false =>
    cases h4 : decide ((m.P.length : Int) ≤ g) with
    | true =>
      push_cast -implicitDefEqProofs [eq_self, iff_self, h3, h4, List.length_map]
    | false =>
      have k3 := of_decide_eq_false h3
      have k4 := of_decide_eq_false h4
      exact absurd ⟨h1, h2, by omega, by omega⟩ hc
  obtain ⟨h1, h2, h3, h4⟩ := hc
  have h3' : decide (g < -1) = false := decide_eq_false (by omega)
  have h4' : decide ((m.P.length : Int) ≤ g) = false := decide_eq_false (by omega)
  have hf := may_f h1
  have hP := form_P hf
  have hlk := lookR_ok m hm n
  rw [put_in h1 h2 ⟨h3, h4⟩, h1, h2]
  push_cast -implicitDefEqProofs [eq_self, iff_self, h3', h4', List.length_map]
  generalize m.look n = q at hlk
  obtain ⟨h, has⟩ := q
  refine callq hlk ?_
  cases has with
  | true =>
    rw [if_pos rfl]
    by_cases hg : g = -1
    · have hg' : (g = -1) = True := eq_true hg
      rw [if_pos (.inl hg)]
      push_cast -implicitDefEqProofs [eq_self, iff_self, hg']
      repeat (refine gskip ?_; push_cast -implicitDefEqProofs [eq_self, iff_self, hg'])
    · have hg' : (g = -1) = False := eq_false hg
      have hF := findR_ok m hm g
      have hMg := mergeR_ok m hm g h
      push_cast -implicitDefEqProofs [eq_self, iff_self, hg']
      refine gcallq' (.int (m.find g)) (fun _ => trivial) (fun _ => hF) ?_
      by_cases hfh : m.find g = h
      · have e1 : decide (m.find g = h) = true := decide_eq_true hfh
        rw [if_pos hfh]
        push_cast -implicitDefEqProofs [eq_self, iff_self, hg', e1]
      · have e1 : decide (m.find g = h) = false := decide_eq_false hfh
        rw [if_neg hfh]
        generalize m.merge g h = q at hMg
        obtain ⟨w, r, e⟩ := q
        push_cast -implicitDefEqProofs [eq_self, iff_self, hg', e1]
        refine callq hMg ?_
        push_cast -implicitDefEqProofs [eq_self, iff_self]
  | false =>
    rw [if_neg Bool.false_ne_true]
    have hNl := ((form_iff m).1 hf).2.2.1
    have hPl := mayS_max hP
    by_cases hN : m.N.length = 400
    · have e1 : decide ((400 : Int) ≤ m.N.length) = true := decide_eq_true (by omega)
      rw [if_pos (.inl hN)]
      push_cast -implicitDefEqProofs [eq_self, iff_self, e1]
      repeat (refine gskip ?_; push_cast -implicitDefEqProofs [eq_self, iff_self, e1])
    have e1 : decide ((400 : Int) ≤ m.N.length) = false := decide_eq_false (by omega)
    have hXN : List.take m.N.length (m.N.map encN) ++ [[.bool n.jn, .int n.occ, .int n.a, .int n.b]] = (m.N ++ [n]).map encN := by rw [List.take_of_length_le (by simp), List.map_append]; rfl
    have hXG : List.take m.G.length (m.G.map encI) ++ [[.int g]] = (m.G ++ [g]).map encI := by rw [List.take_of_length_le (by simp), List.map_append]; rfl
    have hXG2 : List.take m.G.length (m.G.map encI) ++ [[.int m.P.length]] = (m.G ++ [(m.P.length : Int)]).map encI := by rw [List.take_of_length_le (by simp), List.map_append]; rfl
    have hXP : List.take m.P.length (m.P.map encI) ++ [[.int m.P.length]] = (m.P ++ [(m.P.length : Int)]).map encI := by rw [List.take_of_length_le (by simp), List.map_append]; rfl
    have hXP2 : m.P.map encI ++ [[.int m.P.length]] = (m.P ++ [(m.P.length : Int)]).map encI := by rw [List.map_append]; rfl
    have lN : ((m.N ++ [n]).map encN).length = m.N.length + 1 := by rw [List.length_map, List.length_append]; rfl
    have lG : ((m.G ++ [g]).map encI).length = m.G.length + 1 := by rw [List.length_map, List.length_append]; rfl
    have lG2 : ((m.G ++ [(m.P.length : Int)]).map encI).length = m.G.length + 1 := by rw [List.length_map, List.length_append]; rfl
    have lP2 : ((m.P ++ [(m.P.length : Int)]).map encI).length = m.P.length + 1 := by rw [List.length_map, List.length_append]; rfl
    have hGl := ((form_iff m).1 hf).2.1
    by_cases hg : g = -1
    · have hg' : (g = -1) = True := eq_true hg
      by_cases hP4 : m.P.length = 400
      · have e2 : decide ((400 : Int) ≤ m.P.length) = true := decide_eq_true (by omega)
        rw [if_pos (.inr ⟨hg, hP4⟩)]
        push_cast -implicitDefEqProofs [eq_self, iff_self, e1, e2, hg', List.length_map]
      · have e2 : decide ((400 : Int) ≤ m.P.length) = false := decide_eq_false (by omega)
        rw [if_neg (fun hx => hx.elim hN (fun hx => hP4 hx.2)), if_pos hg]
        push_cast -implicitDefEqProofs [eq_self, iff_self, e1, e2, hg', List.length_map]
        refine ⟨by omega, by omega, ?_⟩
        refine areg_grow [some (.cells 3 [[.sl (m.N.map encN), .sl (m.G.map encI), .rsl (H.nxt + 5) 1 0 (m.P.length + 1)]] 0), some (.cells 4 [encN n] 0), some (.cells 3 [[.nilS, .nilS, .nilS]] 0), none, some (.cells 1 [[.int m.P.length]] 0), some (.cells 1 (m.P.map encI ++ [[.int m.P.length]]) 0)] 6 ?_ (by kernel_rfl) (by kernel_rfl) (by kernel_rfl) ?_
        · intro k o ho
          rw [List.take_of_length_le (by simp)]
          exact ho
        push_cast -implicitDefEqProofs [eq_self, iff_self, List.length_map]
        rw [hXN, hXG2, hXP]
        refine ⟨by omega, by omega, by omega, by omega, ?_⟩
        refine .inr (.inl ⟨some, [(2, .int m.P.length), (3, .ptr (H.nxt + 0) 3 0 0), (6, .ptr (H.nxt + 2) 3 0 0)], H.plus [some (.cells 3 [[.sl ((m.N ++ [n]).map encN), .sl ((m.G ++ [(m.P.length : Int)]).map encI), .sl ((m.P ++ [(m.P.length : Int)]).map encI)]] 0), none, some (.cells 3 [[.nilS, .nilS, .nilS]] 0), none, none, none, none, none, none, none, none], weak_plus hs ?_ ?_, ?_⟩)
        · push_cast -implicitDefEqProofs [eq_self, iff_self]
        · push_cast -implicitDefEqProofs [eq_self, iff_self, lN, lG2, lP2, List.take_of_length_le]
        have hF := findR_ok ⟨m.N ++ [n], m.G ++ [(m.P.length : Int)], m.P ++ [(m.P.length : Int)]⟩ ⟨by simp; omega, by simp; omega, by simp; omega⟩ m.P.length
        rw [show (Mm.mk (m.N ++ [n]) (m.G ++ [(m.P.length : Int)]) (m.P ++ [(m.P.length : Int)])).find (m.P.length : Int) = findS (m.P ++ [(m.P.length : Int)]) m.P.length from rfl] at hF
        generalize findS (m.P ++ [(m.P.length : Int)]) m.P.length = v at hF ⊢
        refine (areg_ord (fun D => if D 4 = true then H.plus [some (.cells 3 [[.sl ((m.N ++ [n]).map encN), .sl ((m.G ++ [(m.P.length : Int)]).map encI), .sl ((m.P ++ [(m.P.length : Int)]).map encI)]] 0), none, some (.cells 3 [[.sl ((m.N ++ [n]).map encN), .sl ((m.G ++ [(m.P.length : Int)]).map encI), .sl ((m.P ++ [(m.P.length : Int)]).map encI)]] 0), none, none, none, none, none, none, none, none] else H.plus [some (.cells 3 [[.sl ((m.N ++ [n]).map encN), .sl ((m.G ++ [(m.P.length : Int)]).map encI), .sl ((m.P ++ [(m.P.length : Int)]).map encI)]] 0), none, some (.cells 3 [[.nilS, .nilS, .nilS]] 0), none, none, none, none, none, none, none, none]) (fun q9 => [AV.agg [.sl ((m.N ++ [n]).map encN), .sl ((m.G ++ [(m.P.length : Int)]).map encI), .sl ((m.P ++ [(m.P.length : Int)]).map encI)], .agg [.sl ((m.N ++ [n]).map encN), .sl ((m.G ++ [(m.P.length : Int)]).map encI), .sl ((m.P ++ [(m.P.length : Int)]).map encI)], AV.int (m.P.length), AV.int v, AV.any, AV.int v, AV.int 0].getD q9 .any) (by kernel_rfl) (by kernel_rfl) ?_ ?_)
        · intro i0 o T D C ho hDi hdep hclo hT hC
          have hc : i0 = 0 ∨ i0 = 1 ∨ i0 = 2 ∨ i0 = 3 ∨ i0 = 4 ∨ i0 = 5 ∨ i0 = 6 := by
            have := (Array.getElem?_eq_some_iff.1 ho).1
            simp only [List.size_toArray, List.length_cons, List.length_nil] at this
            omega
          have t2 := hT.low 2 rfl
          have t3 := hT.low 3 rfl
          have t6 := hT.low 6 rfl
          try dsimp only at hC ⊢
          rcases hc with rfl | rfl | rfl | rfl | rfl | rfl | rfl
          all_goals
            simp only [List.getElem?_toArray, List.getElem?_cons_zero, List.getElem?_cons_succ, Option.some.injEq] at ho
            subst ho
          · skip
            have e4 : D 4 = false := by
              cases h : D 4 with
              | false => rfl
              | true =>
                have h2 := (hclo 4 _ rfl h 0 rfl)
                rw [hDi] at h2
                cases h2
            rw [if_neg (by rw [e4]; decide)]
            rw [if_neg (by rw [show addD D 0 4 = D 4 from rfl, e4]; decide)] at hC
            push_cast -implicitDefEqProofs [eq_self, iff_self, t2, t3, t6, List.getD_cons_zero, List.getD_cons_succ, List.length_cons, List.length_nil]
            exact hC
          · skip
            have e4 : D 4 = false := by
              cases h : D 4 with
              | false => rfl
              | true =>
                have h2 := (hclo 3 _ rfl (hclo 4 _ rfl h 3 rfl) 1 rfl)
                rw [hDi] at h2
                cases h2
            rw [if_neg (by rw [e4]; decide)]
            rw [if_neg (by rw [show addD D 1 4 = D 4 from rfl, e4]; decide)] at hC
            push_cast -implicitDefEqProofs [eq_self, iff_self, t2, t3, t6, List.getD_cons_zero, List.getD_cons_succ, List.length_cons, List.length_nil]
            exact hC
          · skip
            have e4 : D 4 = false := by
              cases h : D 4 with
              | false => rfl
              | true =>
                have h2 := (hclo 3 _ rfl (hclo 4 _ rfl h 3 rfl) 2 rfl)
                rw [hDi] at h2
                cases h2
            rw [if_neg (by rw [e4]; decide)]
            rw [if_neg (by rw [show addD D 2 4 = D 4 from rfl, e4]; decide)] at hC
            push_cast -implicitDefEqProofs [eq_self, iff_self, t2, t3, t6, List.getD_cons_zero, List.getD_cons_succ, List.length_cons, List.length_nil]
            exact hC
          · skip
            have d1 := hT.put 1 110 (hdep 1 rfl) rfl
            have d2 := hT.put 2 111 (hdep 2 rfl) rfl
            have e4 : D 4 = false := by
              cases h : D 4 with
              | false => rfl
              | true =>
                have h2 := (hclo 4 _ rfl h 3 rfl)
                rw [hDi] at h2
                cases h2
            rw [if_neg (by rw [e4]; decide)]
            rw [if_neg (by rw [show addD D 3 4 = D 4 from rfl, e4]; decide)] at hC
            push_cast -implicitDefEqProofs [eq_self, iff_self, t2, t3, t6, d1, d2, List.getD_cons_zero, List.getD_cons_succ, List.length_cons, List.length_nil]
            refine callq hF ?_
            exact hC
          · skip
            have d0 := hT.put 0 109 (hdep 0 rfl) rfl
            have e4 : D 4 = false := hDi
            rw [if_neg (by rw [e4]; decide)]
            rw [if_pos (show addD D 4 4 = true from rfl)] at hC
            push_cast -implicitDefEqProofs [eq_self, iff_self, t2, t3, t6, d0, List.getD_cons_zero, List.getD_cons_succ, List.length_cons, List.length_nil]
            exact hC
          · skip
            have d3 := hT.put 3 112 (hdep 3 rfl) rfl
            have e4 : D 4 = true := (hdep 4 rfl)
            rw [if_pos e4]
            rw [if_pos (show addD D 5 4 = true from e4)] at hC
            push_cast -implicitDefEqProofs [eq_self, iff_self, t2, t3, t6, d3, List.getD_cons_zero, List.getD_cons_succ, List.length_cons, List.length_nil]
            exact hC
          · skip
            have e4 : D 4 = true := (hdep 4 rfl)
            rw [if_pos e4]
            rw [if_pos (show addD D 6 4 = true from e4)] at hC
            push_cast -implicitDefEqProofs [eq_self, iff_self, t2, t3, t6, List.getD_cons_zero, List.getD_cons_succ, List.length_cons, List.length_nil]
            exact hC
        · intro T D hD hT
          try dsimp only
          rw [if_pos (hD 4 (by decide))]
          have d5 := hT.put 5 7 (hD 5 (by decide)) rfl
          have d6 := hT.put 6 8 (hD 6 (by decide)) rfl
          have t6 := hT.low 6 rfl
          push_cast -implicitDefEqProofs [eq_self, iff_self, d5, d6, t6]
    · have hg' : (g = -1) = False := eq_false hg
      rw [if_neg (fun hx => hx.elim hN (fun hx => hg hx.1)), if_neg hg]
      push_cast -implicitDefEqProofs [eq_self, iff_self, e1, hg', List.length_map]
      refine areg_grow [some (.cells 3 [[.sl (m.N.map encN), .sl (m.G.map encI), .sl (m.P.map encI)]] 0), some (.cells 4 [encN n] 0), some (.cells 3 [[.nilS, .nilS, .nilS]] 0)] 6 (fun k o ho => ho) (by kernel_rfl) (by kernel_rfl) (by kernel_rfl) ?_
      push_cast -implicitDefEqProofs [eq_self, iff_self, List.length_map]
      rw [hXN, hXG]
      refine ⟨by omega, by omega, by omega, by omega, ?_⟩
      refine .inr (.inl ⟨some, [(2, .int g), (3, .ptr (H.nxt + 0) 3 0 0), (6, .ptr (H.nxt + 2) 3 0 0)], H.plus [some (.cells 3 [[.sl ((m.N ++ [n]).map encN), .sl ((m.G ++ [g]).map encI), .sl (m.P.map encI)]] 0), none, some (.cells 3 [[.nilS, .nilS, .nilS]] 0), none, none, none, none, none], weak_plus hs ?_ ?_, ?_⟩)
      · push_cast -implicitDefEqProofs [eq_self, iff_self]
      · push_cast -implicitDefEqProofs [eq_self, iff_self, lN, lG, List.take_of_length_le]
      have hF := findR_ok ⟨m.N ++ [n], m.G ++ [g], m.P⟩ ⟨by simp; omega, by simp; omega, hm.2.2⟩ g
      rw [show (Mm.mk (m.N ++ [n]) (m.G ++ [g]) m.P).find g = m.find g from rfl] at hF
      generalize m.find g = v at hF ⊢
      refine (areg_ord (fun D => if D 4 = true then H.plus [some (.cells 3 [[.sl ((m.N ++ [n]).map encN), .sl ((m.G ++ [g]).map encI), .sl (m.P.map encI)]] 0), none, some (.cells 3 [[.sl ((m.N ++ [n]).map encN), .sl ((m.G ++ [g]).map encI), .sl (m.P.map encI)]] 0), none, none, none, none, none] else H.plus [some (.cells 3 [[.sl ((m.N ++ [n]).map encN), .sl ((m.G ++ [g]).map encI), .sl (m.P.map encI)]] 0), none, some (.cells 3 [[.nilS, .nilS, .nilS]] 0), none, none, none, none, none]) (fun q9 => [AV.agg [.sl ((m.N ++ [n]).map encN), .sl ((m.G ++ [g]).map encI), .sl (m.P.map encI)], .agg [.sl ((m.N ++ [n]).map encN), .sl ((m.G ++ [g]).map encI), .sl (m.P.map encI)], AV.int (g), AV.int v, AV.any, AV.int v, AV.int 0].getD q9 .any) (by kernel_rfl) (by kernel_rfl) ?_ ?_)
      · intro i0 o T D C ho hDi hdep hclo hT hC
        have hc : i0 = 0 ∨ i0 = 1 ∨ i0 = 2 ∨ i0 = 3 ∨ i0 = 4 ∨ i0 = 5 ∨ i0 = 6 := by
          have := (Array.getElem?_eq_some_iff.1 ho).1
          simp only [List.size_toArray, List.length_cons, List.length_nil] at this
          omega
        have t2 := hT.low 2 rfl
        have t3 := hT.low 3 rfl
        have t6 := hT.low 6 rfl
        try dsimp only at hC ⊢
        rcases hc with rfl | rfl | rfl | rfl | rfl | rfl | rfl
        all_goals
          simp only [List.getElem?_toArray, List.getElem?_cons_zero, List.getElem?_cons_succ, Option.some.injEq] at ho
          subst ho
        · skip
          have e4 : D 4 = false := by
            cases h : D 4 with
            | false => rfl
            | true =>
              have h2 := (hclo 4 _ rfl h 0 rfl)
              rw [hDi] at h2
              cases h2
          rw [if_neg (by rw [e4]; decide)]
          rw [if_neg (by rw [show addD D 0 4 = D 4 from rfl, e4]; decide)] at hC
          push_cast -implicitDefEqProofs [eq_self, iff_self, t2, t3, t6, List.getD_cons_zero, List.getD_cons_succ, List.length_cons, List.length_nil]
          exact hC
        · skip
          have e4 : D 4 = false := by
            cases h : D 4 with
            | false => rfl
            | true =>
              have h2 := (hclo 3 _ rfl (hclo 4 _ rfl h 3 rfl) 1 rfl)
              rw [hDi] at h2
              cases h2
          rw [if_neg (by rw [e4]; decide)]
          rw [if_neg (by rw [show addD D 1 4 = D 4 from rfl, e4]; decide)] at hC
          push_cast -implicitDefEqProofs [eq_self, iff_self, t2, t3, t6, List.getD_cons_zero, List.getD_cons_succ, List.length_cons, List.length_nil]
          exact hC
        · skip
          have e4 : D 4 = false := by
            cases h : D 4 with
            | false => rfl
            | true =>
              have h2 := (hclo 3 _ rfl (hclo 4 _ rfl h 3 rfl) 2 rfl)
              rw [hDi] at h2
              cases h2
          rw [if_neg (by rw [e4]; decide)]
          rw [if_neg (by rw [show addD D 2 4 = D 4 from rfl, e4]; decide)] at hC
          push_cast -implicitDefEqProofs [eq_self, iff_self, t2, t3, t6, List.getD_cons_zero, List.getD_cons_succ, List.length_cons, List.length_nil]
          exact hC
        · skip
          have d1 := hT.put 1 110 (hdep 1 rfl) rfl
          have d2 := hT.put 2 111 (hdep 2 rfl) rfl
          have e4 : D 4 = false := by
            cases h : D 4 with
            | false => rfl
            | true =>
              have h2 := (hclo 4 _ rfl h 3 rfl)
              rw [hDi] at h2
              cases h2
          rw [if_neg (by rw [e4]; decide)]
          rw [if_neg (by rw [show addD D 3 4 = D 4 from rfl, e4]; decide)] at hC
          push_cast -implicitDefEqProofs [eq_self, iff_self, t2, t3, t6, d1, d2, List.getD_cons_zero, List.getD_cons_succ, List.length_cons, List.length_nil]
          refine callq hF ?_
          exact hC
        · skip
          have d0 := hT.put 0 109 (hdep 0 rfl) rfl
          have e4 : D 4 = false := hDi
          rw [if_neg (by rw [e4]; decide)]
          rw [if_pos (show addD D 4 4 = true from rfl)] at hC
          push_cast -implicitDefEqProofs [eq_self, iff_self, t2, t3, t6, d0, List.getD_cons_zero, List.getD_cons_succ, List.length_cons, List.length_nil]
          exact hC
        · skip
          have d3 := hT.put 3 112 (hdep 3 rfl) rfl
          have e4 : D 4 = true := (hdep 4 rfl)
          rw [if_pos e4]
          rw [if_pos (show addD D 5 4 = true from e4)] at hC
          push_cast -implicitDefEqProofs [eq_self, iff_self, t2, t3, t6, d3, List.getD_cons_zero, List.getD_cons_succ, List.length_cons, List.length_nil]
          exact hC
        · skip
          have e4 : D 4 = true := (hdep 4 rfl)
          rw [if_pos e4]
          rw [if_pos (show addD D 6 4 = true from e4)] at hC
          push_cast -implicitDefEqProofs [eq_self, iff_self, t2, t3, t6, List.getD_cons_zero, List.getD_cons_succ, List.length_cons, List.length_nil]
          exact hC
      · intro T D hD hT
        try dsimp only
        rw [if_pos (hD 4 (by decide))]
        have d5 := hT.put 5 7 (hD 5 (by decide)) rfl
        have d6 := hT.put 6 8 (hD 6 (by decide)) rfl
        have t6 := hT.low 6 rfl
        push_cast -implicitDefEqProofs [eq_self, iff_self, d5, d6, t6]
end
section
attribute [local push_cast] encIs_pure encNs_pure encN_eq encM_eq encJ_eq encJs_pure plus_obj0 plus_set0 piL_is00 piL_is0 piL_isk encIs_one encNs_four
def stN (n i : Nat) : List (List AV) := (stM n i).N.map encN
theorem stN_pure (n i : Nat) : PureLL (stN n i) := encNs_pure _
theorem stN_four (n i : Nat) : ∀ e ∈ stN n i, e.length = 4 := of_eq_true (encNs_four _)
theorem stN_zero : stN 0 0 = [] := rfl
theorem stN_leaf (i : Nat) : stN (i + 1) 0 = stN i 0 ++ [[.bool false, .int i, .int 0, .int 0]] := by
  unfold stN stM
  simp only [List.range_zero, List.map_nil, List.append_nil, List.range_succ, List.map_append, List.map_cons]
  rfl
theorem stN_join (n i : Nat) : stN n (i + 1) = stN n i ++ [[.bool true, .int 0, .int (lastM n i), .int ((i : Int) + 1)]] := by
  unfold stN stM
  simp only [List.range_succ, List.map_append, List.map_cons, List.map_nil, ← List.append_assoc]
  rfl
theorem stN_len (n i : Nat) : (stN n i).length = n + i := by simp [stN, stM]
theorem stN_take (n i : Nat) : List.take (n + i) (stN n i) = stN n i := List.take_of_length_le (by rw [stN_len]; exact Nat.le_refl _)
def ioI (j : Nat) : List (List AV) := ((List.range j).map fun (k : Nat) => (k : Int)).map encI
theorem ioI_pure (j : Nat) : PureLL (ioI j) := encIs_pure _
theorem ioI_one (j : Nat) : ∀ e ∈ ioI j, e.length = 1 := of_eq_true (encIs_one _)
theorem ioI_zero : ioI 0 = [] := rfl
theorem ioI_succ (j : Nat) : ioI (j + 1) = ioI j ++ [[.int j]] := by
  unfold ioI
  simp only [List.range_succ, List.map_append, List.map_cons, List.map_nil]
  rfl
theorem ioI_len (j : Nat) : (ioI j).length = j := by simp [ioI]
theorem ioI_take (j : Nat) : List.take j (ioI j) = ioI j := List.take_of_length_le (by rw [ioI_len]; exact Nat.le_refl _)
set_option maxHeartbeats 4000000 in
theorem StartR_ok (n : Int) : Quiet Go.Proofs.Try.prog 22 [.int n] (.tup [encM (start n).1, .int (start n).2.1, .bool (start n).2.2]) := by
  refine quiet_of (rs := #[.cell 2 25, .tmp 3, .tmp 4]) Go.Proofs.Try.func22 rfl rfl rfl mixed rfl rfl fun H hs => ?_
  by_cases hn : 1 ≤ n ∧ n ≤ 4
  case neg =>
    rw [start, if_neg hn]
    by_cases h1 : n < 1
    · have h1' : decide (n < 1) = true := decide_eq_true h1
      push_cast -implicitDefEqProofs [eq_self, iff_self, h1']
      repeat (refine gskip ?_; push_cast -implicitDefEqProofs [eq_self, iff_self, h1'])
    · have h1' : decide (n < 1) = false := decide_eq_false h1
      have h2' : decide (4 < n) = true := decide_eq_true (by omega)
      push_cast -implicitDefEqProofs [eq_self, iff_self, h1', h2']
  have h1' : decide (n < 1) = false := decide_eq_false (by omega)
  have h2' : decide (4 < n) = false := decide_eq_false (by omega)
  obtain ⟨k, rfl⟩ : ∃ k : Nat, n = k := ⟨n.toNat, by omega⟩
  have hst : start (k : Int) = (stM k (k - 1), lastM k (k - 1), true) := by rw [start, if_pos hn]; rfl
  rw [hst]
  push_cast -implicitDefEqProofs [eq_self, iff_self, h1', h2']
  refine loop_at hs (σ := Nat) (fun i => i ≤ k) (fun i => k - i)
    (fun i => [(6, .int i), (0, .int k), (2, .ptr (H.nxt + 0) 3 0 0), (5, .ptr (H.nxt + 1) 3 0 0)]) (fun i => [some (.cells 3 [[.nilS, .nilS, .nilS]] 0), some (.cells 3 [[.rsl (H.nxt + 2) 4 0 i, .nilS, .nilS]] 0), some (.cells 4 (stN i 0) 0)]) [some 0, some 1, none] 0 (by omega) rfl ?_ ?_ ?_
  · (try push_cast -implicitDefEqProofs [eq_self, iff_self])
  · (try push_cast -implicitDefEqProofs [eq_self, iff_self, stN_zero])
  intro i hi2
  by_cases hi : i < k
  · have hi' : ((i : Int) < k) = True := by simp; omega
    have hsn := stN_leaf i
    have htk : List.take i (stN i 0) = stN i 0 := stN_take i 0
    have hll : (stN i 0).length = i := stN_len i 0
    push_cast -implicitDefEqProofs [eq_self, iff_self, hi', htk, hll]
    rw [wrap64 (by omega) (by omega)]
    refine ⟨by omega, next_at [some 0, some 1, some 4] (i + 1) (by omega) (by omega) rfl ?_ ?_⟩
    · (try push_cast -implicitDefEqProofs [eq_self, iff_self])
    · (try push_cast -implicitDefEqProofs [eq_self, iff_self, hsn])
      rw [← hsn]
      exact ⟨sealLL_pure _ _ _ (stN_pure _ _), stN_four _ _⟩
  have hi' : ((i : Int) < k) = False := by simp; omega
  obtain rfl : i = k := by omega
  push_cast -implicitDefEqProofs [eq_self, iff_self, hi']
  refine loop_at hs (σ := Nat) (fun q => q + 1 ≤ i) (fun q => i - q)
    (fun q => [(8, .int ((q : Int) + 1)), (7, .int (lastM i q)), (0, .int i), (2, .ptr (H.nxt + 0) 3 0 0), (5, .ptr (H.nxt + 1) 3 0 0)]) (fun q => [some (.cells 3 [[.nilS, .nilS, .nilS]] 0), some (.cells 3 [[.rsl (H.nxt + 2) 4 0 (i + q), .nilS, .nilS]] 0), some (.cells 4 (stN i q) 0)]) [some 0, some 1, some 2] 0 (by omega) rfl ?_ ?_ ?_
  · (try push_cast -implicitDefEqProofs [eq_self, iff_self, lastM])
  · (try push_cast -implicitDefEqProofs [eq_self, iff_self])
    exact ⟨rfl, sealLL_pure _ _ _ (stN_pure _ _), stN_four _ _⟩
  intro q hq
  by_cases hj : q + 1 < i
  · have hj' : ((q : Int) + 1 < i) = True := eq_true (by omega)
    have hsn := stN_join i q
    have htk := stN_take i q
    have hll := stN_len i q
    have hla : lastM i (q + 1) = (i : Int) + ((q : Int) + 1) - 1 := by rw [lastM, if_neg (by omega)]; omega
    have hl1 : i + q + 1 = i + (q + 1) := by omega
    push_cast -implicitDefEqProofs [eq_self, iff_self, hj', htk, hll]
    rw [wrap64 (n := (i : Int) + ((q : Int) + 1)) (by omega) (by omega), wrap64 (n := (i : Int) + ((q : Int) + 1) - 1) (by omega) (by omega), wrap64 (n := (q : Int) + 1 + 1) (by omega) (by omega)]
    refine ⟨by omega, next_at [some 0, some 1, some 4] (q + 1) (by omega) (by omega) rfl ?_ ?_⟩
    · (try push_cast -implicitDefEqProofs [eq_self, iff_self, hla])
    · (try push_cast -implicitDefEqProofs [eq_self, iff_self, hsn, hl1])
      rw [← hsn]
      exact ⟨sealLL_pure _ _ _ (stN_pure _ _), stN_four _ _⟩
  have hj' : ((q : Int) + 1 < i) = False := eq_false (by omega)
  obtain rfl : q = i - 1 := by omega
  obtain ⟨W, hW⟩ : ∃ W, W = i + (i - 1) := ⟨_, rfl⟩
  have hsl := stN_len i (i - 1)
  have hspu := stN_pure i (i - 1)
  have hsfo := stN_four i (i - 1)
  rw [show (stM i (i - 1)).N.map encN = stN i (i - 1) from rfl, show (stM i (i - 1)).G.map encI = ioI W by rw [hW]; rfl, show (stM i (i - 1)).P.map encI = ioI W by rw [hW]; rfl]
  rw [← hW] at hsl ⊢
  generalize lastM i (i - 1) = la
  generalize stN i (i - 1) = rowN at hsl hspu hsfo ⊢
  have hiw : W ≤ 8 := by omega
  push_cast -implicitDefEqProofs [eq_self, iff_self, hj']
  refine loop_at hs (σ := Nat) (fun j => j ≤ W) (fun j => W - j)
    (fun j => [(9, .int j), (7, .int la), (2, .ptr (H.nxt + 0) 3 0 0), (5, .ptr (H.nxt + 1) 3 0 0)]) (fun j => [some (.cells 3 [[.nilS, .nilS, .nilS]] 0), some (.cells 3 [[.rsl (H.nxt + 2) 4 0 W, .rsl (H.nxt + 3) 1 0 j, .rsl (H.nxt + 4) 1 0 j]] 0), some (.cells 4 rowN 0), some (.cells 1 (ioI j) 0), some (.cells 1 (ioI j) 0)]) [some 0, some 1, some 2, none, none] 0 (by omega) rfl ?_ ?_ ?_
  · (try push_cast -implicitDefEqProofs [eq_self, iff_self])
  · (try push_cast -implicitDefEqProofs [eq_self, iff_self, ioI_zero])
    exact ⟨sealLL_pure _ _ _ hspu, hsfo⟩
  intro j hj
  by_cases hjW : j < W
  · have hj' : ((j : Int) < W) = True := eq_true (by omega)
    have hio := ioI_succ j
    have htk := ioI_take j
    have hll := ioI_len j
    push_cast -implicitDefEqProofs [eq_self, iff_self, hj', htk, hll]
    rw [wrap64 (by omega) (by omega)]
    refine ⟨by omega, by omega, next_at [some 0, some 1, some 2, some 6, some 8] (j + 1) (by omega) (by omega) rfl ?_ ?_⟩
    · (try push_cast -implicitDefEqProofs [eq_self, iff_self])
    · (try push_cast -implicitDefEqProofs [eq_self, iff_self, hio])
      rw [← hio]
      repeat' first
        | exact sealLL_pure _ _ _ hspu
        | exact hsfo
        | exact sealLL_pure _ _ _ (ioI_pure _)
        | exact ioI_one _
        | refine ⟨?_, ?_⟩
  have hj' : ((j : Int) < W) = False := eq_false (by omega)
  obtain rfl : j = W := by omega
  have hll := ioI_len j
  have htk := ioI_take j
  push_cast -implicitDefEqProofs [eq_self, iff_self, hj', hll, htk]
  refine ⟨⟨by omega, ?_⟩, sealLL_pure _ _ _ (ioI_pure _)⟩
  rw [List.take_of_length_le (by omega)]
  exact sealLL_pure _ _ _ hspu
end
section
attribute [local push_cast] encIs_pure encNs_pure encN_eq encM_eq encJ_eq encJs_pure plus_obj0 plus_set0 piL_is00 piL_is0 piL_isk encIs_one encNs_four encJs_three
set_option maxHeartbeats 4000000 in
theorem JobsR_ok (m : Mm) (hsm : m.Small) : Quiet Go.Proofs.Try.prog 27 [encM m] (.sl (m.jobs.map encJ)) := by
  refine quiet_of (rs := #[.tmp 2]) Go.Proofs.Try.func27 rfl rfl rfl mixed rfl rfl fun H hs => ?_
  push_cast -implicitDefEqProofs [eq_self, iff_self]
  refine callq (mayR_ok m hsm) ?_
  cases hmay : m.may with
  | false =>
    have hj : m.jobs = [] := by rw [jobs_def, hmay]; rfl
    rw [hj]
    push_cast -implicitDefEqProofs [eq_self, iff_self]
    refine loop_at hs (σ := Nat) (fun i => i = 0) (fun i => i) (fun i => [(5, .int i), (4, .bool false), (3, .rsl (H.nxt + 1) 3 0 0), (1, .ptr (H.nxt + 0) 3 0 0)]) (fun i => [some (.cells 3 [[.sl (m.N.map encN), .sl (m.G.map encI), .sl (m.P.map encI)]] 0), some (.cells 3 [] 0)]) [some 0, none] 0 rfl rfl ?_ ?_ ?_
    · (try push_cast -implicitDefEqProofs [eq_self, iff_self])
    · (try push_cast -implicitDefEqProofs [eq_self, iff_self])
    rintro i rfl
    push_cast -implicitDefEqProofs [eq_self, iff_self, List.length_map, List.map_nil]
  | true =>
  have hf := may_f hmay
  have hP := form_P hf
  have hRl := rootsS_len hP
  have hGl := ((form_iff m).1 hf).2.1
  have hNl := ((form_iff m).1 hf).2.2.1
  have hj0 : m.jobs = m.jobs0 := by rw [jobs_def, hmay]; rfl
  rw [hj0]
  push_cast -implicitDefEqProofs [eq_self, iff_self]
  refine loop_at hs (σ := Nat) (fun i => i ≤ m.N.length) (fun i => m.N.length - i)
    (fun i => [(5, .int i), (4, .bool true), (3, .rsl (H.nxt + 1) 3 0 (jobsUp m i).length), (1, .ptr (H.nxt + 0) 3 0 0)])
    (fun i => [some (.cells 3 [[.sl (m.N.map encN), .sl (m.G.map encI), .sl (m.P.map encI)]] 0), some (.cells 3 ((jobsUp m i).map encJ) 0)]) [some 0, none] 0 (by omega) rfl ?_ ?_ ?_
  · (try push_cast -implicitDefEqProofs [eq_self, iff_self, show jobsUp m 0 = [] from rfl])
  · (try push_cast -implicitDefEqProofs [eq_self, iff_self, show jobsUp m 0 = [] from rfl])
  intro i hi2
  by_cases hi : i < m.N.length
  · have hi' : ((i : Int) < (m.N.length : Int)) = True := by simp; omega
    have hi0 : (0 ≤ (i : Int)) = True := by simp
    have hget := encN_get m.N i hi
    have hsucc := jobsUp_succ m i
    have hat := jobsAt_def m i
    have hlen : (jobsUp m i).length ≤ 400 * 401 := Nat.le_trans (jobsUp_len m i) (Nat.mul_le_mul (by omega) (by omega))
    cases hj : (m.N.getD i nd0).jn with
    | false =>
      rw [hat, hj, if_neg (by decide), List.append_nil] at hsucc
      push_cast -implicitDefEqProofs [eq_self, iff_self, hi', hi0, hget, hj, List.length_map]
      rw [wrap64 (by omega) (by omega)]
      refine next_at [some 0, some 1] (i + 1) (by omega) (by omega) rfl ?_ ?_
      · (try push_cast -implicitDefEqProofs [eq_self, iff_self, hsucc])
      · (try push_cast -implicitDefEqProofs [eq_self, iff_self, hsucc])
    | true =>
      rw [hat, hj, if_pos rfl] at hsucc
      have hnode := node_join (form_N hf hi) hj
      have fa := findR_ok m hsm (m.N.getD i nd0).a
      have era : m.find (m.N.getD i nd0).a = (rootsS m.P).getD (m.N.getD i nd0).a.toNat 0 := by
        rw [rootsS_at hP (by omega), Mm.find, findS, if_pos (by rw [hP, decide_eq_true hnode.2.1.1, decide_eq_true hnode.2.1.2]; rfl)]
      rw [era] at fa
      have hl0 : ∀ k, k ≤ m.N.length → (rowJ m i k).length ≤ 200000 := fun k hk => by
        have := jobsTo_len m i k
        rw [rowJ, List.length_append, List.length_cons]; omega
      have hlk : (rowJ m i 0).length = (jobsUp m i).length + 1 := by rw [rowJ, List.length_append]; rfl
      have hrow0 : List.take (jobsUp m i).length ((jobsUp m i).map encJ) ++ [[AV.lit (.bool false), .lit (.int .i64 (i : Int)), .lit (.int .i64 0)]] = (rowJ m i 0).map encJ := by
        rw [List.take_of_length_le (by simp), rowJ, List.map_append]; rfl
      push_cast -implicitDefEqProofs [eq_self, iff_self, hi', hi0, hget, hj, List.length_map]
      refine ⟨by omega, ?_⟩
      refine loop_at hs (σ := Nat) (fun k => k ≤ m.N.length) (fun k => m.N.length - k)
        (fun k => [(6, .int k), (5, .int i), (4, .bool true), (3, .rsl (H.nxt + 1) 3 0 (rowJ m i k).length), (1, .ptr (H.nxt + 0) 3 0 0)])
        (fun k => [some (.cells 3 [[.sl (m.N.map encN), .sl (m.G.map encI), .sl (m.P.map encI)]] 0), some (.cells 3 ((rowJ m i k).map encJ) 0)]) [some 0, some 3] 0 (by omega) rfl ?_ ?_ ?_
      · (try push_cast -implicitDefEqProofs [eq_self, iff_self, hlk])
      · (try push_cast -implicitDefEqProofs [eq_self, iff_self, hrow0, hj])
      intro k hk2
      by_cases hk : k < m.N.length
      · have hk' : ((k : Int) < (m.N.length : Int)) = True := by simp; omega
        have hk0 : (0 ≤ (k : Int)) = True := by simp
        have hkG : ((k : Int) < (m.G.length : Int)) = True := by simp; omega
        have hgk := encN_get m.N k hk
        have hg1 := int_at (p := m.G) (i := k) (by omega)
        have fk := findR_ok m hsm (m.G.getD k 0)
        rw [show m.find (m.G.getD k 0) = m.rg k from find_rg hf hk] at fk
        have hts := jobsTo_succ m i k
        have hrs : rowJ m i (k + 1) = if ((m.N.getD k nd0).jn && decide (m.rg k = (rootsS m.P).getD (m.N.getD i nd0).a.toNat 0)) = true then rowJ m i k ++ [⟨true, i, k⟩] else rowJ m i k := by
          rw [rowJ, hts]
          split
          · rw [rowJ, List.append_assoc]; rfl
          · rfl
        have hlk := hl0 k hk2
        generalize (rootsS m.P).getD (m.N.getD i nd0).a.toNat 0 = ra at fa hrs
        generalize m.rg k = rk at fk hrs
        push_cast -implicitDefEqProofs [eq_self, iff_self, hk', List.length_map]
        refine areg_at 24 (by kernel_rfl) (by kernel_rfl) ?_
        push_cast -implicitDefEqProofs [eq_self, iff_self, hk', hk0, hgk, List.length_map]
        cases hjk : (m.N.getD k nd0).jn with
        | false =>
          rw [hjk, Bool.false_and, if_neg (by decide)] at hrs
          push_cast -implicitDefEqProofs [eq_self, iff_self, hjk, hk0, hkG, hg1, hi', hi0, hget, List.length_map]
          repeat (refine gcallq .any (fun h => Bool.noConfusion h) ?_; push_cast -implicitDefEqProofs [eq_self, iff_self, hjk, hk0, hkG, hg1, hi', hi0, hget, List.length_map])
          rw [wrap64 (by omega) (by omega)]
          refine next_at [some 0, some 1] (k + 1) (by omega) (by omega) rfl ?_ ?_
          · (try push_cast -implicitDefEqProofs [eq_self, iff_self, hrs])
          · (try push_cast -implicitDefEqProofs [eq_self, iff_self, hrs])
        | true =>
          rw [hjk, Bool.true_and] at hrs
          push_cast -implicitDefEqProofs [eq_self, iff_self, hjk, hk0, hkG, hg1, hi', hi0, hget, List.length_map]
          refine gcallq (.int rk) (fun _ => fk) ?_
          push_cast -implicitDefEqProofs [eq_self, iff_self, hjk, hk0, hkG, hg1, hi', hi0, hget, List.length_map]
          refine gcallq (.int ra) (fun _ => fa) ?_
          by_cases he : rk = ra
          · have he' : decide (rk = ra) = true := decide_eq_true he
            rw [he', if_pos rfl] at hrs
            have hln : (rowJ m i (k + 1)).length = (rowJ m i k).length + 1 := by rw [hrs]; simp
            have hrow : List.take (rowJ m i k).length ((rowJ m i k).map encJ) ++ [[AV.lit (.bool true), .lit (.int .i64 (i : Int)), .lit (.int .i64 (k : Int))]] = (rowJ m i (k + 1)).map encJ := by
              rw [List.take_of_length_le (by simp), hrs, List.map_append]; rfl
            push_cast -implicitDefEqProofs [eq_self, iff_self, he', hjk, hk0, hkG, hg1, hi', hi0, hget, List.length_map]
            rw [wrap64 (by omega) (by omega)]
            refine ⟨by omega, ?_⟩
            refine next_at [some 0, some 3] (k + 1) (by omega) (by omega) rfl ?_ ?_
            · (try push_cast -implicitDefEqProofs [eq_self, iff_self, hln])
            · (try push_cast -implicitDefEqProofs [eq_self, iff_self, hrow])
          · have he' : decide (rk = ra) = false := decide_eq_false he
            rw [he', if_neg (by decide)] at hrs
            push_cast -implicitDefEqProofs [eq_self, iff_self, he', hjk, hk0, hkG, hg1, hi', hi0, hget, List.length_map]
            rw [wrap64 (by omega) (by omega)]
            refine next_at [some 0, some 1] (k + 1) (by omega) (by omega) rfl ?_ ?_
            · (try push_cast -implicitDefEqProofs [eq_self, iff_self, hrs])
            · (try push_cast -implicitDefEqProofs [eq_self, iff_self, hrs])
      · have hk' : ((k : Int) < (m.N.length : Int)) = False := by simp; omega
        obtain rfl : k = m.N.length := by omega
        have hrow : rowJ m i m.N.length = jobsUp m (i + 1) := by rw [hsucc]; rfl
        push_cast -implicitDefEqProofs [eq_self, iff_self, hk', List.length_map]
        rw [wrap64 (by omega) (by omega)]
        refine next_at [some 0, some 1] (i + 1) (by omega) (by omega) rfl ?_ ?_
        · (try push_cast -implicitDefEqProofs [eq_self, iff_self, hrow])
        · (try push_cast -implicitDefEqProofs [eq_self, iff_self, hrow])
  · have hi' : ((i : Int) < (m.N.length : Int)) = False := by simp; omega
    obtain rfl : i = m.N.length := by omega
    have hcap : List.take (jobsUp m m.N.length).length ((jobsUp m m.N.length).map encJ) = (jobsUp m m.N.length).map encJ := List.take_of_length_le (by simp)
    rw [jobs0_up]
    push_cast -implicitDefEqProofs [eq_self, iff_self, hi', List.length_map, hcap]
theorem jobs_few (m : Mm) : m.jobs.length ≤ 1000000 := by
  rw [jobs_def]
  split
  · rename_i hm
    have h1 := ((form_iff m).1 (may_f hm)).2.2.1
    rw [jobs0_up]
    have := jobsUp_len m m.N.length
    have h3 : m.N.length * (m.N.length + 1) ≤ 400 * 401 := Nat.mul_le_mul (by omega) (by omega)
    omega
  · simp
set_option maxHeartbeats 4000000 in
theorem DoR_ok (m : Mm) (hsm : m.Small) (j : Jb) : Quiet Go.Proofs.Try.prog 21 [encM m, .agg (encJ j)] (.tup [encM (m.doJ j).1, .int (m.doJ j).2]) := by
  have hJs := JobsR_ok m hsm
  have hH := HasJ_ok m.jobs j (jobs_few m)
  refine quiet_of (rs := #[.cell 4 25, .tmp 5]) Go.Proofs.Try.func21 rfl rfl rfl mixed rfl rfl fun H hs => ?_
  push_cast -implicitDefEqProofs [eq_self, iff_self]
  refine areg_at 4 (by kernel_rfl) (by kernel_rfl) ?_
  push_cast -implicitDefEqProofs [eq_self, iff_self]
  refine ahdq hJs ?_
  push_cast -implicitDefEqProofs [eq_self, iff_self]
  refine ahdq hH ?_
  cases hany : m.jobs.any fun k => eqJ k j with
  | false =>
    have hd : m.doJ j = (m, 1) := by unfold Mm.doJ; rw [hany]; rfl
    rw [hd]
    push_cast -implicitDefEqProofs [eq_self, iff_self]
  | true =>
  obtain ⟨hmay, hj0⟩ := jobs_any.1 hany
  have hd : m.doJ j = m.do0 j := by unfold Mm.doJ; rw [hany]; rfl
  rw [hd, do0_def]
  have hf := may_f hmay
  have hGl := ((form_iff m).1 hf).2.1
  obtain ⟨p1, p2, p3, p4⟩ := job_places hj0
  clear hJs hH hany hj0 hd
  obtain ⟨mv, e, f⟩ := j
  dsimp only at p1 p2 p3 p4
  obtain ⟨e, rfl⟩ : ∃ k : Nat, e = k := ⟨e.toNat, by omega⟩
  obtain ⟨f, rfl⟩ : ∃ k : Nat, f = k := ⟨f.toNat, by omega⟩
  have ge := encN_get m.N e (by omega)
  have gf := encN_get m.N f (by omega)
  have gG := int_at (p := m.G) (i := e) (by omega)
  have e0 : (0 ≤ (e : Int)) = True := by simp
  have f0 : (0 ≤ (f : Int)) = True := by simp
  have eN := inb_true (n := e) (k := m.N.length) (by omega)
  have fN := inb_true (n := f) (k := m.N.length) (by omega)
  have eG := inb_true (n := e) (k := m.G.length) (by omega)
  cases mv with
  | false =>
    have hP1 := putR_ok m hsm (ndJ (m.N.getD e nd0).b (m.N.getD e nd0).a) (m.G.getD e 0)
    rw [if_neg Bool.false_ne_true]
    rw [show m.do1 ⟨false, e, f⟩ = m.put (ndJ (m.N.getD e nd0).b (m.N.getD e nd0).a) (m.G.getD e 0) from rfl]
    generalize m.put (ndJ (m.N.getD e nd0).b (m.N.getD e nd0).a) (m.G.getD e 0) = q at hP1
    obtain ⟨x, k, c⟩ := q
    generalize m.N.getD e nd0 = ne at ge hP1
    generalize m.G.getD e 0 = Ge at gG hP1
    push_cast -implicitDefEqProofs [eq_self, iff_self, e0, eN, ge, List.length_map]
    refine areg_at 20 (by kernel_rfl) (by kernel_rfl) ?_
    push_cast -implicitDefEqProofs [eq_self, iff_self, e0, eG, gG, List.length_map]
    refine ahdq hP1 ?_
    push_cast -implicitDefEqProofs [eq_self, iff_self]
  | true =>
    have hP2 := putR_ok m hsm (ndJ (m.N.getD f nd0).b (m.N.getD e nd0).b) (-1)
    rw [if_pos rfl]
    have e2 : m.do2 ⟨true, e, f⟩ = m.put (ndJ (m.N.getD f nd0).b (m.N.getD e nd0).b) (-1) := rfl
    have e3 : m.do3 ⟨true, e, f⟩ = (m.do2 ⟨true, e, f⟩).1.put (ndJ (m.N.getD f nd0).a (m.do2 ⟨true, e, f⟩).2.1) (m.G.getD e 0) := rfl
    have hfew := put_lens m (ndJ (m.N.getD f nd0).b (m.N.getD e nd0).b) (-1)
    rw [e3, e2]
    generalize m.put (ndJ (m.N.getD f nd0).b (m.N.getD e nd0).b) (-1) = q at hP2 hfew
    obtain ⟨x, k, c⟩ := q
    dsimp only at hfew
    have hxs : x.Small := by
      have h1 := ((form_iff m).1 hf).2.2.1
      have h2 := mayS_max (form_P hf)
      have h3 : m.G.length ≤ 400 := by omega
      unfold Mm.Small
      omega
    have hP3 := putR_ok x hxs (ndJ (m.N.getD f nd0).a k) (m.G.getD e 0)
    dsimp only
    generalize x.put (ndJ (m.N.getD f nd0).a k) (m.G.getD e 0) = q at hP3
    obtain ⟨y, l, d⟩ := q
    generalize m.N.getD e nd0 = ne at ge hP2
    generalize m.N.getD f nd0 = nf at gf hP2 hP3
    generalize m.G.getD e 0 = Ge at gG hP3
    push_cast -implicitDefEqProofs [eq_self, iff_self, e0, eN, ge, f0, fN, gf, List.length_map]
    refine callq hP2 ?_
    by_cases hc : c = 0
    · rw [if_pos hc]
      subst hc
      push_cast -implicitDefEqProofs [eq_self, iff_self]
      refine areg_at 19 (by kernel_rfl) (by kernel_rfl) ?_
      push_cast -implicitDefEqProofs [eq_self, iff_self, e0, eG, gG, List.length_map]
      refine ahdq hP3 ?_
      by_cases hd : d = 0
      · rw [if_pos hd]
        subst hd
        push_cast -implicitDefEqProofs [eq_self, iff_self]
      · have hd' : decide (d = 0) = false := decide_eq_false hd
        rw [if_neg hd]
        push_cast -implicitDefEqProofs [eq_self, iff_self, hd']
    · have hc' : decide (c = 0) = false := decide_eq_false hc
      rw [if_neg hc]
      push_cast -implicitDefEqProofs [eq_self, iff_self, hc']
theorem SameR_self (m : Mm) (hsm : m.Small) : Quiet Go.Proofs.Try.prog 23 [encM m, encM m] (.bool (mayS m.P)) := by
  have hSP := SameR15_ok m.P m.P hsm.2.2 hsm.2.2
  have hv : sameS m.P m.P = mayS m.P := by rw [sameS_cut]; cases mayS m.P <;> simp
  rw [hv] at hSP
  refine quiet_of (rs := #[.tmp 4]) Go.Proofs.Try.func23 rfl rfl rfl mixed rfl rfl fun H hs => ?_
  push_cast -implicitDefEqProofs [eq_self, iff_self, List.length_map]
  refine loop_at hs (σ := Nat) (fun i => i ≤ m.N.length) (fun i => m.N.length - i)
    (fun i => [(5, .int i), (2, .ptr (H.nxt + 0) 3 0 0), (3, .ptr (H.nxt + 1) 3 0 0)]) (fun i => [some (.cells 3 [[.sl (m.N.map encN), .sl (m.G.map encI), .sl (m.P.map encI)]] 0), some (.cells 3 [[.sl (m.N.map encN), .sl (m.G.map encI), .sl (m.P.map encI)]] 0)]) [some 0, some 1] 0 (by omega) rfl ?_ ?_ ?_
  · (try push_cast -implicitDefEqProofs [eq_self, iff_self])
  · (try push_cast -implicitDefEqProofs [eq_self, iff_self])
  intro i hi2
  by_cases hi : i < m.N.length
  · have hi' := inb_true hi
    have hi0 : (0 ≤ (i : Int)) = True := by simp
    have gn := encN_get m.N i hi
    generalize m.N.getD i nd0 = n at gn
    have hcm := cmpN n.jn n.jn n.occ n.a n.b n.occ n.a n.b
    have hco : (n.jn == n.jn && (decide (n.occ = n.occ) && (decide (n.a = n.a) && (decide (n.b = n.b) && true)))) = true := by simp
    rw [hco] at hcm
    push_cast -implicitDefEqProofs [eq_self, iff_self, hi', List.length_map]
    refine areg_at 11 (by kernel_rfl) (by kernel_rfl) ?_
    push_cast -implicitDefEqProofs [eq_self, iff_self, hi', hi0, gn, List.length_map, lits, cellsEq, cellEq, hcm, hco]
    rw [wrap64 (by have := hsm.1; omega) (by have := hsm.1; omega)]
    refine next_at [some 0, some 1] (i + 1) (by omega) (by omega) rfl ?_ ?_
    · (try push_cast -implicitDefEqProofs [eq_self, iff_self])
    · (try push_cast -implicitDefEqProofs [eq_self, iff_self])
  have hi' : ((i : Int) < m.N.length) = False := eq_false (by omega)
  push_cast -implicitDefEqProofs [eq_self, iff_self, hi', List.length_map]
  refine loop_at hs (σ := Nat) (fun i => i ≤ m.G.length) (fun i => m.G.length - i)
    (fun i => [(6, .int i), (2, .ptr (H.nxt + 0) 3 0 0), (3, .ptr (H.nxt + 1) 3 0 0)]) (fun i => [some (.cells 3 [[.sl (m.N.map encN), .sl (m.G.map encI), .sl (m.P.map encI)]] 0), some (.cells 3 [[.sl (m.N.map encN), .sl (m.G.map encI), .sl (m.P.map encI)]] 0)]) [some 0, some 1] 0 (by omega) rfl ?_ ?_ ?_
  · (try push_cast -implicitDefEqProofs [eq_self, iff_self])
  · (try push_cast -implicitDefEqProofs [eq_self, iff_self])
  intro i hi2
  by_cases hi : i < m.G.length
  · have hi' := inb_true hi
    have hi0 : (0 ≤ (i : Int)) = True := by simp
    have gn := int_at (p := m.G) hi
    generalize m.G.getD i 0 = n at gn
    push_cast -implicitDefEqProofs [eq_self, iff_self, hi', List.length_map]
    refine areg_at 11 (by kernel_rfl) (by kernel_rfl) ?_
    push_cast -implicitDefEqProofs [eq_self, iff_self, hi', hi0, gn, List.length_map]
    rw [wrap64 (by have := hsm.2.1; omega) (by have := hsm.2.1; omega)]
    refine next_at [some 0, some 1] (i + 1) (by omega) (by omega) rfl ?_ ?_
    · (try push_cast -implicitDefEqProofs [eq_self, iff_self])
    · (try push_cast -implicitDefEqProofs [eq_self, iff_self])
  have hi' : ((i : Int) < m.G.length) = False := eq_false (by omega)
  push_cast -implicitDefEqProofs [eq_self, iff_self, hi', List.length_map]
  refine callq hSP ?_
  push_cast -implicitDefEqProofs [eq_self, iff_self]
theorem SameJR_self (l : List Jb) (hl : l.length ≤ 1000000) : Quiet Go.Proofs.Try.prog 25 [.sl (l.map encJ), .sl (l.map encJ)] (.bool true) := by
  refine quiet_of (rs := #[.tmp 4]) Go.Proofs.Try.func25 rfl rfl rfl mixed rfl rfl fun H hs => ?_
  push_cast -implicitDefEqProofs [eq_self, iff_self, List.length_map]
  refine loop_at hs (σ := Nat) (fun i => i ≤ l.length) (fun i => l.length - i)
    (fun i => [(5, .int i), (0, .sl (l.map encJ)), (1, .sl (l.map encJ))]) (fun i => []) [] 0 (by omega) rfl ?_ ?_ ?_
  · (try push_cast -implicitDefEqProofs [eq_self, iff_self])
  · (try push_cast -implicitDefEqProofs [eq_self, iff_self])
  intro i hi2
  by_cases hi : i < l.length
  · have hi' := inb_true hi
    have hi0 : (0 ≤ (i : Int)) = True := by simp
    have hget : (l.map encJ).getD i [] = encJ l[i] := by rw [List.getD_eq_getElem?_getD, List.getElem?_map, List.getElem?_eq_getElem hi]; rfl
    generalize l[i] = x at hget
    have hcm := cmpJ x.mv x.mv x.e x.f x.e x.f
    have hco : (x.mv == x.mv && (decide (x.e = x.e) && (decide (x.f = x.f) && true))) = true := by simp
    rw [hco] at hcm
    push_cast -implicitDefEqProofs [eq_self, iff_self, hi', List.length_map]
    refine areg_at 9 (by kernel_rfl) (by kernel_rfl) ?_
    push_cast -implicitDefEqProofs [eq_self, iff_self, hi', hi0, hget, List.length_map, lits, cellsEq, cellEq, hcm, hco]
    rw [wrap64 (by omega) (by omega)]
    refine next_at [] (i + 1) (by omega) (by omega) rfl ?_ ?_
    · (try push_cast -implicitDefEqProofs [eq_self, iff_self])
    · (try push_cast -implicitDefEqProofs [eq_self, iff_self])
  have hi' : ((i : Int) < l.length) = False := eq_false (by omega)
  push_cast -implicitDefEqProofs [eq_self, iff_self, hi', List.length_map]
end
section
attribute [local push_cast] encIs_pure encNs_pure encN_eq encM_eq encJ_eq encJs_pure plus_obj0 plus_set0 piL_is00 piL_is0 piL_isk encIs_one encNs_four
theorem start_small (n : Int) : (start n).1.Small ∧ mayS (start n).1.P = true := by
  by_cases hn : 1 ≤ n ∧ n ≤ 4
  · obtain ⟨k, rfl⟩ : ∃ k : Nat, n = k := ⟨n.toNat, by omega⟩
    have hst : start (k : Int) = (stM k (k - 1), lastM k (k - 1), true) := by rw [start, if_pos hn]; rfl
    rw [hst]
    rcases (by omega : k = 1 ∨ k = 2 ∨ k = 3 ∨ k = 4) with rfl | rfl | rfl | rfl
    all_goals exact ⟨⟨by decide, by decide, by decide⟩, by decide +kernel⟩
  · rw [start, if_neg hn]
    exact ⟨⟨by simp, by simp, by simp⟩, by decide +kernel⟩
set_option maxHeartbeats 4000000 in
theorem growTells_ok (m : Mm) (j : Jb) (n : Int) : Quiet Go.Proofs.Try.prog 5 [encM m, .agg (encJ j), .int n] (.bool true) := by
  have hFar := Far_ok m 30
  refine quiet_of (rs := #[.tmp 6]) Go.Proofs.Try.func5 rfl rfl rfl mixed rfl rfl fun H hs => ?_
  push_cast -implicitDefEqProofs [eq_self, iff_self]
  refine callq Awake_ok ?_
  push_cast -implicitDefEqProofs [eq_self, iff_self]
  refine gcallq' (.int (if farM m 30 then 0 else 1)) (fun _ => trivial) (fun _ => hFar) ?_
  cases hfar : farM m 30 with
  | false =>
    push_cast -implicitDefEqProofs [eq_self, iff_self, hfar, Bool.false_eq_true, if_false]
  | true =>
    obtain ⟨hsm, hN, hG, hP⟩ := far_small (by decide) hfar
    have hD := Do_ok m hsm j
    have hDR := DoR_ok m hsm j
    have hS := Start_ok n
    have hSR := StartR_ok n
    obtain ⟨hss, hsP⟩ := start_small n
    have hJ := Jobs_ok m hsm
    have hJR := JobsR_ok m hsm
    have hJS := SameJR_self m.jobs (jobs_few m)
    have hMay := MayM_ok m hsm
    have hxs : (m.doJ j).1.Small := by
      rcases doJ_ok m j with ⟨_, h⟩ | ⟨_, _, _, h⟩
      · rw [h]; exact hsm
      · exact small_of h.may
    have hxm : m.may = true → mayS (m.doJ j).1.P = true := fun hm => by
      rcases doJ_ok m j with ⟨_, h⟩ | ⟨_, _, _, h⟩
      · rw [h]; exact form_P (may_f hm)
      · exact form_P (may_f h.may)
    have hSx := SameR_self (m.doJ j).1 hxs
    have hSs := SameR_self (start n).1 hss
    rw [hsP] at hSs
    generalize m.jobs = jl at hJ hJR hJS
    generalize mayS (m.doJ j).1.P = pm at hSx hxm
    generalize m.doJ j = q at hD hDR hSx
    obtain ⟨x, e⟩ := q
    generalize start n = q at hS hSR hSs
    obtain ⟨y, g, b⟩ := q
    push_cast -implicitDefEqProofs [eq_self, iff_self, hfar, if_true]
    refine callq hD ?_
    push_cast -implicitDefEqProofs [eq_self, iff_self]
    refine callq hDR ?_
    push_cast -implicitDefEqProofs [eq_self, iff_self]
    refine callq hS ?_
    push_cast -implicitDefEqProofs [eq_self, iff_self]
    refine callq hSR ?_
    push_cast -implicitDefEqProofs [eq_self, iff_self]
    refine callq hSx ?_
    cases b
    all_goals
      cases pm with
      | true =>
        push_cast -implicitDefEqProofs [eq_self, iff_self]
        repeat (refine gskip ?_; push_cast -implicitDefEqProofs [eq_self, iff_self])
        refine callq hSs ?_
        push_cast -implicitDefEqProofs [eq_self, iff_self]
        refine areg_at 16 (by kernel_rfl) (by kernel_rfl) ?_
        push_cast -implicitDefEqProofs [eq_self, iff_self]
        refine gcallq (.sl (jl.map encJ)) (fun _ => hJ) ?_
        push_cast -implicitDefEqProofs [eq_self, iff_self]
        refine gcallq (.sl (jl.map encJ)) (fun _ => hJR) ?_
        push_cast -implicitDefEqProofs [eq_self, iff_self]
        refine gcallq (.bool true) (fun _ => hJS) ?_
        push_cast -implicitDefEqProofs [eq_self, iff_self]
      | false =>
        have hmf : m.may = false := by
          cases hm : m.may with
          | false => rfl
          | true => exact (hxm hm).symm
        rw [hmf] at hMay
        push_cast -implicitDefEqProofs [eq_self, iff_self]
        refine gcallq' (.bool false) (fun _ => trivial) (fun _ => hMay) ?_
        push_cast -implicitDefEqProofs [eq_self, iff_self]
        refine callq hSs ?_
        push_cast -implicitDefEqProofs [eq_self, iff_self]
        refine areg_at 16 (by kernel_rfl) (by kernel_rfl) ?_
        push_cast -implicitDefEqProofs [eq_self, iff_self]
        refine gcallq (.sl (jl.map encJ)) (fun _ => hJ) ?_
        push_cast -implicitDefEqProofs [eq_self, iff_self]
        refine gcallq (.sl (jl.map encJ)) (fun _ => hJR) ?_
        push_cast -implicitDefEqProofs [eq_self, iff_self]
        refine gcallq (.bool true) (fun _ => hJS) ?_
        push_cast -implicitDefEqProofs [eq_self, iff_self]
theorem growTells_law (us : List AV) (h : ToldAll Go.Proofs.Try.prog Go.Proofs.Try.f5.params.toList us) : Quiet Go.Proofs.Try.prog 5 us (.bool true) := by
  have e1 : Go.Proofs.Try.f5.params.toList = [25, 41, 3] := by kernel_rfl
  rw [e1] at h
  obtain ⟨m, u1, rfl, h1⟩ := told_M h
  obtain ⟨j, u2, rfl, h2⟩ := told_J h1
  obtain ⟨k, u3, rfl, _, h3⟩ := told_I h2
  obtain rfl := told_nil h3
  exact growTells_ok m j k
end
end Go.Sim.Try
