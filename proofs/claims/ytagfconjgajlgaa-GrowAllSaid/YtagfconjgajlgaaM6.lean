/- What the row rests on, part 6. Conditions: none. -/
import Derived.Test.YtagfconjgajlgaaM5
set_option linter.unusedSimpArgs false
set_option linter.unusedVariables false
set_option maxRecDepth 100000
namespace Go.Sim.Try
open Go Go.Sim
section
theorem rg_is {m : Mm} (hf : m.form = true) {e f : Nat} (he : e < m.N.length) (hj : (nd m e).jn = true) (hfl : f < m.N.length) : m.rg f = (rootsS m.P).getD (nd m e).a.toNat 0 ↔ ro m (gi m f) = ro m (nd m e).a.toNat := by
  rw [rg_ro hf hfl, rootsS_at (form_P hf) (jn_lt hf he hj).1]
  exact ⟨fun h => by exact_mod_cast h, fun h => by exact_mod_cast h⟩
theorem job_iff {m : Mm} (hf : m.form = true) {j : Jb} : j ∈ m.jobs0 ↔ ∃ e, e < m.N.length ∧ (nd m e).jn = true ∧ (j = ⟨false, e, 0⟩ ∨ ∃ f, f < m.N.length ∧ (nd m f).jn = true ∧ ro m (gi m f) = ro m (nd m e).a.toNat ∧ j = ⟨true, e, f⟩) := by
  rw [mem_jobs0]
  refine exists_congr fun e => and_congr_right fun he => and_congr_right fun hj => or_congr_right ?_
  refine exists_congr fun f => and_congr_right fun hfl => and_congr_right fun hfj => and_congr_left fun _ => ?_
  exact rg_is hf he hj hfl
theorem do_ok {m : Mm} (hm : m.may = true) {j : Jb} (hj : j ∈ m.jobs0) : ((∃ c, c ≠ 0 ∧ m.do0 j = (m, c)) ∧ (399 ≤ m.N.length ∨ 399 ≤ m.P.length)) ∨ ((m.do0 j).2 = 0 ∧ DoOk m j (m.do0 j).1) := by
  obtain ⟨e, he, hjn, h⟩ := mem_jobs0.1 hj
  rcases h with rfl | ⟨f, hfl, hfj, _, rfl⟩
  · rcases turn_ok hm he hjn with ⟨h1, h2⟩ | h
    · exact .inl ⟨⟨3, by decide, h1⟩, by omega⟩
    · exact .inr h
  · exact move_ok hm he hjn hfl hfj
theorem job_kept {m x : Mm} (hf : m.form = true) (hxf : x.form = true) (h : ExtM m x) {j : Jb} (hj : j ∈ m.jobs0) : j ∈ x.jobs0 := by
  rw [job_iff hf] at hj
  rw [job_iff hxf]
  obtain ⟨e, he, hjn, h1⟩ := hj
  refine ⟨e, Nat.lt_of_lt_of_le he h.nlen, by rw [h.node e he]; exact hjn, ?_⟩
  rcases h1 with h1 | ⟨f, hfl, hfj, hr, h1⟩
  · exact .inl h1
  · refine .inr ⟨f, Nat.lt_of_lt_of_le hfl h.nlen, by rw [h.node f hfl]; exact hfj, ?_, h1⟩
    rw [h.grp f hfl, h.node e he]
    exact h.eqv (gi_lt hf hfl) (jn_lt hf he hjn).1 hr
theorem job_at {m : Mm} {j : Jb} (hj : j ∈ m.jobs0) : j.e.toNat < m.N.length ∧ (nd m j.e.toNat).jn = true ∧ (j.mv = true → j.f.toNat < m.N.length ∧ (nd m j.f.toNat).jn = true) := by
  obtain ⟨e, he, hjn, h⟩ := mem_jobs0.1 hj
  rcases h with rfl | ⟨f, hfl, hfj, _, rfl⟩
  · exact ⟨he, hjn, fun h => by cases h⟩
  · exact ⟨he, hjn, fun _ => ⟨hfl, hfj⟩⟩
theorem turnN_ok {m : Mm} (hf : m.form = true) {e : Nat} (he : e < m.N.length) (hj : (nd m e).jn = true) : m.node (turnN m e) = true := by
  obtain ⟨_, ha, hb⟩ := node_join (form_N hf he) hj
  exact nodeJ hb ha
theorem moveN_ok {m : Mm} (hf : m.form = true) {e f : Nat} (he : e < m.N.length) (hj : (nd m e).jn = true) (hfl : f < m.N.length) (hfj : (nd m f).jn = true) : m.node (moveN m e f) = true := by
  obtain ⟨_, ha, hb⟩ := node_join (form_N hf he) hj
  obtain ⟨_, fa, fb⟩ := node_join (form_N hf hfl) hfj
  exact nodeJ fb hb
theorem map_id {m w : Mm} {φ : Nat → Nat} (hφ : ∀ h, h < m.P.length → φ h = h) {n : Nd} (hn : m.node n = true) : sameC w (mapN φ n) n := by
  refine ⟨rfl, fun _ => rfl, fun hj => ?_⟩
  obtain ⟨_, a, b⟩ := node_join hn hj
  have e1 := hφ n.a.toNat (by omega)
  have e2 := hφ n.b.toNat (by omega)
  simp only [mapN, e1, e2, Int.toNat_natCast, and_self]
theorem Sat.ext {m b y : Mm} (hf : m.form = true) (hbf : b.form = true) (hmb : ExtM m b) (h : ExtM b y) {j : Jb} (hj : j ∈ m.jobs0) (hs : Sat m b (fun g => g) j) : Sat m y (fun g => g) j := by
  obtain ⟨he, hjn, hmv⟩ := job_at hj
  have hge := Nat.lt_of_lt_of_le (gi_lt hf he) hmb.plen
  have up : ∀ n, m.node n = true → b.node n = true := fun n hn => node_more hmb.plen hn
  unfold Sat at hs ⊢
  split
  · rename_i hm
    obtain ⟨hfl, hfj⟩ := hmv hm
    rw [if_pos hm] at hs
    obtain ⟨r, hr, s1, s2⟩ := hs
    have hn := moveN_ok hf he hjn hfl hfj
    refine ⟨r, Nat.lt_of_lt_of_le hr h.plen, ?_, ?_⟩
    · exact (h.has hbf (up _ hn) hr (s1.congr (map_id (fun _ _ => rfl) hn))).congr (map_id (m := m) (fun _ _ => rfl) hn).symm
    · obtain ⟨a1, b1⟩ := jn_lt hf hfl hfj
      exact h.has hbf (nodeJ ⟨Int.natCast_nonneg _, by have := hmb.plen; show (((nd m j.f.toNat).a.toNat : Nat) : Int) < _; omega⟩ ⟨by omega, by omega⟩) hge s2
  · rename_i hm
    rw [if_neg hm] at hs
    have hn := turnN_ok hf he hjn
    exact (h.has hbf (up _ hn) hge (HasN.congr hs (map_id (fun _ _ => rfl) hn))).congr (map_id (m := m) (fun _ _ => rfl) hn).symm
theorem Sat.from_ {m a y : Mm} {φ : Nat → Nat} (hf : m.form = true) (hma : ExtM m a) (hφ : ∀ h, h < m.P.length → φ h = h) {j : Jb} (hj : j ∈ m.jobs0) : Sat m y (fun g => g) j ↔ Sat a y φ j := by
  obtain ⟨he, hjn, hmv⟩ := job_at hj
  have eg : φ (gi a j.e.toNat) = gi m j.e.toNat := by rw [hma.grp _ he]; exact hφ _ (gi_lt hf he)
  unfold Sat
  by_cases hm : j.mv = true
  · obtain ⟨hfl, hfj⟩ := hmv hm
    rw [if_pos hm, if_pos hm]
    have hn := moveN_ok hf he hjn hfl hfj
    have en : moveN a j.e.toNat j.f.toNat = moveN m j.e.toNat j.f.toNat := by unfold moveN; rw [hma.node _ he, hma.node _ hfl]
    have ef : φ (nd a j.f.toNat).a.toNat = (nd m j.f.toNat).a.toNat := by rw [hma.node _ hfl]; exact hφ _ (jn_lt hf hfl hfj).1
    unfold SatM
    rw [en, eg, ef]
    refine exists_congr fun r => and_congr_right fun _ => and_congr_left fun _ => ?_
    exact ⟨fun h => (h.congr (map_id (m := m) (fun _ _ => rfl) hn)).congr (map_id (m := m) hφ hn).symm, fun h => (h.congr (map_id (m := m) hφ hn)).congr (map_id (m := m) (fun _ _ => rfl) hn).symm⟩
  · rw [if_neg hm, if_neg hm]
    have hn := turnN_ok hf he hjn
    have en : turnN a j.e.toNat = turnN m j.e.toNat := by unfold turnN; rw [hma.node _ he]
    unfold SatT
    rw [en, eg]
    exact ⟨fun h => (h.congr (map_id (m := m) (fun _ _ => rfl) hn)).congr (map_id (m := m) hφ hn).symm, fun h => (h.congr (map_id (m := m) hφ hn)).congr (map_id (m := m) (fun _ _ => rfl) hn).symm⟩
theorem same_self {m : Mm} (hP : mayS m.P = true) : m.same m = true := by
  have h1 : ∀ l : List Nd, eqNs l l = true := fun l => by
    induction l with
    | nil => rfl
    | cons x l ih => rw [eqNs, eqN_refl, ih]; rfl
  rw [Mm.same, h1, sameS, hP]
  simp
open Classical in
open Classical in
end
section
def In64 (n : Int) : Prop := -9223372036854775808 ≤ n ∧ n ≤ 9223372036854775807
theorem asV_I (vs : List AV) : asV Go.Proofs.Try.prog 3 vs = vs.headD .any := by simp only [asV, Go.Proofs.Try.underlying3]
theorem told_I {ts : List TypeId} {us : List AV} (h : ToldAll Go.Proofs.Try.prog (3 :: ts) us) : ∃ (n : Int) (us' : List AV), us = .int n :: us' ∧ In64 n ∧ ToldAll Go.Proofs.Try.prog ts us' := by
  simp only [ToldAll] at h
  obtain ⟨n, vs, us1, rfl, h1, h3⟩ := h
  obtain ⟨k, rfl, hk⟩ := shp_int Go.Proofs.Try.underlying3 h1
  exact ⟨k, us1, by rw [asV_I]; rfl, wf64 hk, h3⟩
theorem told_nil {us : List AV} (h : ToldAll Go.Proofs.Try.prog [] us) : us = [] := by simpa only [ToldAll] using h
end
attribute [local push_cast] aops_cons aops_nil aopG_none aopG_some aopP_eq aopE_eq aopC_eq aopE?_eq aopC?_eq aopB_eq aopB?_eq aopN_eq aopN?_eq anxt anext amrange alast amapNil abr anilq gopP_eq gopL_eq ahead_cons ahead_nil ahdG_none ahdG_some ahdP_eq ahdN_eq ahdC_eq ahdN?_eq ahdS_eq ahdS?_eq astoreN ahdC?_eq ghdP_eq ghdC_eq ghdC?_eq ghdZ_f ghdZ_t ahdI_eq ahdI?_eq ghdN?_eq aim_nil aim_cons isIn_nil isIn_none isIn_cons aimm aheP_eq aheA_eq aheC_eq aheC?_eq aheI?_eq aheA?_eq gheP_eq gheC_eq gheC?_eq gheZ_eq aheG_none aheG_some aheff_cons aheff_nil aapp gro_rsl gro_lit gro_esl opt_some opt_none no_eq acondT_true acondT_false acondT_lit abytes bytesU aw_skip aw_region aw_regionD aw_seq aw_cond aw_block aw_loop aw_exit aw_label aw_ret thn_normal thn_exit thn_ret inb_normal inb_exit inb_ret qret_ret qret_normal gcond apure aeff anew acallee ares aresT aresL aresC ares1 qfin_eq ev ofV evL gokL tget tput_some tput_none initT abin aint aun aload afaddr aiaddr afield aindex aextract apick pickv_lit Bool.or_false Bool.false_or Bool.or_true Bool.true_or imp_self aslice chunk roomB abound aconv abuild afill splice alen aminmax abuiltin anil apart Value.oneCell' astore aappend srcEs abuildSlice amakeSlice amapPut aclear aentry aestore alookup aput afind mget keyV sameV_int Option.isSome_some Option.isSome_none cond_true cond_false asets isEq plus_obj plus_nxt plus_add plus_set plus_del IntKind.bits Option.map_some Option.map_none Option.bind_some Option.bind_none Option.join_some Option.getD_some Option.getD_none Option.toList List.getElem?_toArray List.getElem?_cons_zero List.getElem?_cons_succ List.getElem?_nil List.length_cons List.length_nil List.length_map List.head?_cons List.cons_append List.nil_append List.append_nil List.map_cons List.map_nil List.getD_cons_zero List.getD_cons_succ List.replicate_succ List.replicate_zero List.set_cons_zero List.set_cons_succ List.take_succ_cons List.take_zero List.drop_succ_cons List.drop_zero List.all_cons List.all_nil Nat.zero_add if_true if_false true_and and_true false_and and_false true_implies implies_true forall_const Bool.and_true Bool.true_and Bool.false_and Bool.and_false Bool.true_beq Bool.false_beq Bool.not_not beq_tt beq_ff Int.toNat_natCast decide_true decide_false Bool.not_true Bool.not_false Bool.true_eq_false Bool.false_eq_true false_implies exists_prop eq_self bne_self_eq_false beq_self_eq_true decide_eq_true_eq decide_eq_false_iff_not Bool.not_eq_true' Bool.not_eq_false' AV.int AV.bool AV.nilS ne_eq not_false_eq_true not_true_eq_false exists_eq_left exists_eq_left' Nat.lt_irrefl core_lit grd_lit acells_lit one_lit core_agg grd_agg acells_agg one_agg core_tup grd_tup acells_tup one_tup core_sl grd_sl acells_sl one_sl core_esl grd_esl acells_esl one_esl core_rsl grd_rsl acells_rsl one_rsl core_ptr grd_ptr acells_ptr one_ptr core_iptr grd_iptr acells_iptr one_iptr core_clo grd_clo acells_clo one_clo core_mp grd_mp acells_mp one_mp core_any grd_any acells_any one_any core_gv grd_gv fit_agg fit_lit fit_sl fit_esl fit_rsl fit_ptr fit_iptr fit_clo fit_mp retq_ret retq_normal set_nxt set_set plus_obj_set plus_set_set app_get0 app_get app_set0 app_set List.append_assoc List.length_append List.length_set Nat.lt_add_one Nat.add_lt_add_iff_right Nat.lt_add_right_iff_pos Nat.add_lt_add_iff_left List.mem_cons List.not_mem_nil or_false forall_eq forall_eq_or_imp lt_s0 lt_s1 lt_s2 lt_s3 lt_s4 lt_s5 lt_s6 lt_s7 lt_s8 pickv_t pickv_f or_nand or_nand2 imp_and_l SealT SealOs sealO_cells sl_lit sl_any sl_agg sl_tup sl_sl sl_rsl slO sl_esl sl_nil sl_eslesl sl_eslnil sl_rslrsl sl_eslrsl sl_nilrsl sl_ptr sl_iptr sl_ptri slP sl_clo sl_mp sl_gv sll_nil sll_cons slll_nil slll_cons shut_eq shutO Option.join_none Fn.func.injEq and_self sealL_self sealLL_self seal_self PureL PureLL Pure Nat.le_refl Nat.zero_le AV.lit.injEq Value.int.injEq Value.bool.injEq false_or or_true true_or Int.natCast_zero Int.ofNat_zero Int.cast_ofNat_Int Int.natCast_add Int.natCast_one Option.some.injEq piL_is sop_nil sop_cons sop_none sop_some sopO_some sop_new shut_pi shutL_nil shutL_cons exQ_exit exQ_ret exQ_normal Go.Sim.Try.ty_load1 Go.Sim.Try.ty_zero1 Go.Sim.Try.ty_load2 Go.Sim.Try.ty_zero2 Go.Sim.Try.ty_und2 Go.Sim.Try.ty_load3 Go.Sim.Try.ty_zero3 Go.Sim.Try.ty_und3 Go.Sim.Try.ty_load4 Go.Sim.Try.ty_zero4 Go.Sim.Try.ty_und4 Go.Sim.Try.ty_load5 Go.Sim.Try.ty_zero5 Go.Sim.Try.ty_und5 Go.Sim.Try.ty_load9 Go.Sim.Try.ty_zero9 Go.Sim.Try.ty_und9 Go.Sim.Try.ty_load21 Go.Sim.Try.ty_zero21 Go.Sim.Try.ty_und21 Go.Sim.Try.ty_load22 Go.Sim.Try.ty_zero22 Go.Sim.Try.ty_el22 Go.Sim.Try.ty_zeroE22 Go.Sim.Try.ty_load23 Go.Sim.Try.ty_zero23 Go.Sim.Try.ty_el23 Go.Sim.Try.ty_zeroE23 Go.Sim.Try.ty_load25 Go.Sim.Try.ty_zero25 Go.Sim.Try.ty_fld25_0 Go.Sim.Try.ty_part25_0 Go.Sim.Try.ty_fld25_1 Go.Sim.Try.ty_part25_1 Go.Sim.Try.ty_fld25_2 Go.Sim.Try.ty_part25_2 Go.Sim.Try.ty_struct25 Go.Sim.Try.ty_load29 Go.Sim.Try.ty_zero29 Go.Sim.Try.ty_el29 Go.Sim.Try.ty_zeroE29 Go.Sim.Try.ty_load34 Go.Sim.Try.ty_zero34 Go.Sim.Try.ty_und34 Go.Sim.Try.ty_load41 Go.Sim.Try.ty_zero41 Go.Sim.Try.ty_fld41_0 Go.Sim.Try.ty_part41_0 Go.Sim.Try.ty_fld41_1 Go.Sim.Try.ty_part41_1 Go.Sim.Try.ty_fld41_2 Go.Sim.Try.ty_part41_2 Go.Sim.Try.ty_struct41 Go.Sim.Try.ty_load47 Go.Sim.Try.ty_zero47 Go.Sim.Try.ty_el47 Go.Sim.Try.ty_zeroE47 Go.Sim.Try.ty_load55 Go.Sim.Try.ty_zero55 Go.Sim.Try.ty_fld55_0 Go.Sim.Try.ty_part55_0 Go.Sim.Try.ty_fld55_1 Go.Sim.Try.ty_part55_1 Go.Sim.Try.ty_fld55_2 Go.Sim.Try.ty_part55_2 Go.Sim.Try.ty_fld55_3 Go.Sim.Try.ty_part55_3 Go.Sim.Try.ty_struct55 Go.Sim.Try.ty_load56 Go.Sim.Try.ty_zero56 Go.Sim.Try.ty_load58 Go.Sim.Try.ty_zero58 Go.Sim.Try.ty_fld58_0 Go.Sim.Try.ty_part58_0 Go.Sim.Try.ty_fld58_1 Go.Sim.Try.ty_part58_1 Go.Sim.Try.ty_struct58 Go.Sim.Try.ty_load60 Go.Sim.Try.ty_zero60 Go.Sim.Try.ty_load67 Go.Sim.Try.ty_zero67 Go.Sim.Try.ty_el67 Go.Sim.Try.ty_zeroE67 Go.Sim.Try.ty_load68 Go.Sim.Try.ty_zero68 Go.Sim.Try.ty_und68 Go.Sim.Try.ty_vzero58 Go.Sim.Try.ty_load72 Go.Sim.Try.ty_zero72 Go.Sim.Try.ty_el72 Go.Sim.Try.ty_zeroE72 Go.Sim.Try.ty_load79 Go.Sim.Try.ty_zero79 Go.Sim.Try.ty_load80 Go.Sim.Try.ty_zero80 Go.Sim.Try.ty_und80 Go.Sim.Try.ty_vzero4 Go.Sim.Try.ty_load82 Go.Sim.Try.ty_zero82 Go.Sim.Try.ty_fld82_0 Go.Sim.Try.ty_part82_0 Go.Sim.Try.ty_fld82_1 Go.Sim.Try.ty_part82_1 Go.Sim.Try.ty_fld82_2 Go.Sim.Try.ty_part82_2 Go.Sim.Try.ty_struct82 Go.Sim.Try.ty_load86 Go.Sim.Try.ty_zero86 Go.Sim.Try.ty_und86 Go.Sim.Try.ty_vzero3 Go.Sim.Try.ty_load87 Go.Sim.Try.ty_zero87 Go.Sim.Try.ty_arr87 Go.Sim.Try.ty_part87_0 Go.Sim.Try.ty_part87_1 Go.Sim.Try.ty_struct87 Go.Sim.Try.ty_load98 Go.Sim.Try.ty_zero98 Go.Sim.Try.ty_und98 Go.Sim.Try.ty_load100 Go.Sim.Try.ty_zero100 Go.Sim.Try.ty_und100 Go.Sim.Try.ty_el100 Go.Sim.Try.ty_zeroE100 Go.Sim.Try.ty_load104 Go.Sim.Try.ty_zero104 Go.Sim.Try.ty_load109 Go.Sim.Try.ty_zero109 Go.Sim.Try.ty_load112 Go.Sim.Try.ty_zero112 Go.Sim.Try.ty_und112 Go.Sim.Try.ty_load119 Go.Sim.Try.ty_zero119 Go.Sim.Try.ty_und119 Go.Sim.Try.ty_load121 Go.Sim.Try.ty_zero121 Go.Sim.Try.ty_und121 Go.Sim.Try.ty_load129 Go.Sim.Try.ty_zero129 Go.Sim.Try.ty_und129 Go.Sim.Try.ty_load133 Go.Sim.Try.ty_zero133
section
attribute [local push_cast] encT_mk encT_take encT_len encT_one encTs_pure encT_pure
theorem bytesI : Program.bytesOf Go.Proofs.Try.prog 3 = 8 := by kernel_rfl
theorem shp_Is {n : Nat} {vs : List AV} (h : Shp Go.Proofs.Try.prog n 23 vs) : ∃ l : List Int, vs = [.sl (l.map encI)] ∧ l.length ≤ 140737488355328 := by
  obtain ⟨m, es, _, rfl, hl, hp⟩ := shp_slice Go.Proofs.Try.underlying23 h
  rw [bytesI] at hl
  obtain ⟨l, rfl, hq⟩ := map_of (f := encI) (q := fun x => In64 x) fun x hx => let ⟨v, hv, hw⟩ := shp_int Go.Proofs.Try.underlying3 (hp x hx).2; ⟨v, hv, wf64 hw⟩
  exact ⟨l, rfl, by simp [reachBytes] at hl; omega⟩
theorem asV_Is (vs : List AV) : asV Go.Proofs.Try.prog 23 vs = vs.headD .any := by simp only [asV, Go.Proofs.Try.underlying23]
theorem told_Is {ts : List TypeId} {us : List AV} (h : ToldAll Go.Proofs.Try.prog (23 :: ts) us) : ∃ (l : List Int) (us' : List AV), us = .sl (l.map encI) :: us' ∧ l.length ≤ 140737488355328 ∧ ToldAll Go.Proofs.Try.prog ts us' := by
  simp only [ToldAll] at h
  obtain ⟨n, vs, us1, rfl, h1, h3⟩ := h
  obtain ⟨l, rfl, h4⟩ := shp_Is h1
  exact ⟨l, us1, by rw [asV_Is]; rfl, h4, h3⟩
theorem sameT_self (t : Tr) : sameT t t = true := by
  induction t using Tr.ind with
  | h o l ih =>
    rw [sameT, decide_eq_true rfl, Bool.true_and]
    exact sameTL_all rfl fun i h h' => ih _ (List.getElem_mem h)
end
section
attribute [local push_cast] encT_mk encT_take encT_len encT_one encTs_pure encT_pure
theorem lvsT_len : ∀ (d : Nat) (t : Tr), d ≤ 4 → (lvsT d t).1.length ≤ 2 ^ d
  | 0, _, _ => by simp [lvsT]
  | d + 1, .mk o [], _ => by rw [lvsT_nil]; simp; exact Nat.one_le_two_pow
  | d + 1, .mk o [a, b], h => by
    rw [lvsT_two]
    have ha := lvsT_len d a (by omega)
    have hb := lvsT_len d b (by omega)
    split
    · rw [List.length_append, Nat.pow_succ]; omega
    · simp
  | d + 1, .mk o [a], _ => by rw [lvsT_one]; simp
  | d + 1, .mk o (a :: b :: c :: l), _ => by rw [lvsT_more]; simp
theorem pow_16 {d : Nat} (h : d ≤ 4) : 2 ^ d ≤ 16 := by
  have hc : d = 0 ∨ d = 1 ∨ d = 2 ∨ d = 3 ∨ d = 4 := by omega
  rcases hc with rfl | rfl | rfl | rfl | rfl <;> decide
theorem isL1 (l : List Int) : ∀ e ∈ l.map encI, e.length = 1 := by
  simp only [List.mem_map]
  rintro _ ⟨x, _, rfl⟩
  rfl
theorem isA1 (l : List Int) : ∀ e ∈ l.map encI, e.all AV.one = true := by
  simp only [List.mem_map]
  rintro _ ⟨x, _, rfl⟩
  rfl
set_option maxHeartbeats 4000000 in
theorem leaves_ok : ∀ (d : Nat) (t : Tr), d ≤ 4 → t.Ok → Quiet Go.Proofs.Try.prog 113 [.agg (encT t), .int ((5 - d : Nat) : Int)] (.tup [.sl ((lvsT d t).1.map encI), .bool (lvsT d t).2])
  | 0, .mk o l, _, _ => by
    refine quiet_of (rs := #[.tmp 4, .tmp 5]) Go.Proofs.Try.func113 rfl rfl rfl mixed rfl rfl fun H hs => ?_
    simp -implicitDefEqProofs only [push_cast, Nat.reduceAdd, Nat.reduceSub, Nat.reduceMul, Nat.reduceLT, Nat.reduceLeDiff, Nat.reduceEqDiff, Nat.reduceBEq, reduceCtorEq, reduceIte, Int.reduceLE, Int.reduceLT, Int.reduceNeg, Int.reduceToNat, lvsT, List.map_nil, Int.reduceAdd]
  | d + 1, .mk o [], hd, ht => by
    have hd0 : (4 < ((5 - (d + 1) : Nat) : Int)) = False := by simp; omega
    refine quiet_of (rs := #[.tmp 4, .tmp 5]) Go.Proofs.Try.func113 rfl rfl rfl mixed rfl rfl fun H hs => ?_
    rw [lvsT_nil]
    simp -implicitDefEqProofs only [push_cast, Nat.reduceAdd, Nat.reduceSub, Nat.reduceMul, Nat.reduceLT, Nat.reduceLeDiff, Nat.reduceEqDiff, Nat.reduceBEq, reduceCtorEq, reduceIte, Int.reduceLE, Int.reduceLT, Int.reduceNeg, Int.reduceToNat, hd0, List.length_nil, List.map_nil, Int.reduceEq]
    refine areg_at 12 (by kernel_rfl) (by kernel_rfl) ?_
    simp -implicitDefEqProofs only [push_cast, Nat.reduceAdd, Nat.reduceSub, Nat.reduceMul, Nat.reduceLT, Nat.reduceLeDiff, Nat.reduceEqDiff, Nat.reduceBEq, reduceCtorEq, reduceIte, Int.reduceLE, Int.reduceLT, Int.reduceNeg, Int.reduceToNat]
    exact sealL_pure _ _ _ (by simp [PureL, Pure])
  | d + 1, .mk o [a], hd, ht => by
    have hd0 : (4 < ((5 - (d + 1) : Nat) : Int)) = False := by simp; omega
    refine quiet_of (rs := #[.tmp 4, .tmp 5]) Go.Proofs.Try.func113 rfl rfl rfl mixed rfl rfl fun H hs => ?_
    rw [lvsT_one]
    simp -implicitDefEqProofs only [push_cast, Nat.reduceAdd, Nat.reduceSub, Nat.reduceMul, Nat.reduceLT, Nat.reduceLeDiff, Nat.reduceEqDiff, Nat.reduceBEq, reduceCtorEq, reduceIte, Int.reduceLE, Int.reduceLT, Int.reduceNeg, Int.reduceToNat, hd0, List.length_cons, List.length_nil, List.map_nil, List.map_cons, Int.reduceEq, Int.reduceAdd]
  | d + 1, .mk o (a :: b :: c :: l), hd, ht => by
    have hd0 : (4 < ((5 - (d + 1) : Nat) : Int)) = False := by simp; omega
    have e0 : ((l.length : Int) + 1 + 1 + 1 = 0) = False := by simp; omega
    have e2 : ((l.length : Int) + 1 + 1 + 1 = 2) = False := by simp; omega
    refine quiet_of (rs := #[.tmp 4, .tmp 5]) Go.Proofs.Try.func113 rfl rfl rfl mixed rfl rfl fun H hs => ?_
    rw [lvsT_more]
    simp -implicitDefEqProofs only [push_cast, Nat.reduceAdd, Nat.reduceSub, Nat.reduceMul, Nat.reduceLT, Nat.reduceLeDiff, Nat.reduceEqDiff, Nat.reduceBEq, reduceCtorEq, reduceIte, Int.reduceLE, Int.reduceLT, Int.reduceNeg, Int.reduceToNat, hd0, List.length_cons, List.length_nil, List.map_nil, List.map_cons, e0, e2]
  | d + 1, .mk o [a, b], hd, ht => by
    have hd0 : (4 < ((5 - (d + 1) : Nat) : Int)) = False := by simp; omega
    obtain ⟨_, hlo⟩ := ht
    have ha := leaves_ok d a (by omega) (hlo _ (by simp))
    have hb := leaves_ok d b (by omega) (hlo _ (by simp))
    have la := lvsT_len d a (by omega)
    have lb := lvsT_len d b (by omega)
    have hp := pow_16 (d := d) (by omega)
    have hw : IntKind.wrap .i64 (((5 - (d + 1) : Nat) : Int) + 1) = ((5 - d : Nat) : Int) := by rw [wrap64 (by omega) (by omega)]; omega
    refine quiet_of (rs := #[.tmp 4, .tmp 5]) Go.Proofs.Try.func113 rfl rfl rfl mixed rfl rfl fun H hs => ?_
    rw [lvsT_two]
    by_cases ho : o = 0
    · have ho' : (o = 0) = True := by simp [ho]
      rw [if_pos ho]
      simp -implicitDefEqProofs only [push_cast, Nat.reduceAdd, Nat.reduceSub, Nat.reduceMul, Nat.reduceLT, Nat.reduceLeDiff, Nat.reduceEqDiff, Nat.reduceBEq, reduceCtorEq, reduceIte, Int.reduceLE, Int.reduceLT, Int.reduceNeg, Int.reduceToNat, hd0, hw, ho', List.length_cons, List.length_nil, List.map_nil, List.map_cons, Int.reduceEq, Int.reduceAdd]
      refine callq ha ?_
      simp -implicitDefEqProofs only [push_cast, Nat.reduceAdd, Nat.reduceSub, Nat.reduceMul, Nat.reduceLT, Nat.reduceLeDiff, Nat.reduceEqDiff, Nat.reduceBEq, reduceCtorEq, reduceIte, Int.reduceLE, Int.reduceLT, Int.reduceNeg, Int.reduceToNat, hd0, hw, List.length_cons, List.length_nil, Int.reduceEq, Int.reduceAdd]
      refine callq hb ?_
      simp -implicitDefEqProofs only [push_cast, Nat.reduceAdd, Nat.reduceSub, Nat.reduceMul, Nat.reduceLT, Nat.reduceLeDiff, Nat.reduceEqDiff, Nat.reduceBEq, reduceCtorEq, reduceIte, Int.reduceLE, Int.reduceLT, Int.reduceNeg, Int.reduceToNat]
      refine ⟨⟨isL1 _, by omega⟩, ⟨isL1 _, isA1 _, by omega⟩, by simp, ?_⟩
      rw [List.take_of_length_le (l := (lvsT d a).1.map encI) (by simp), List.take_of_length_le (by simp), ← List.map_append]
      exact sealLL_pure _ _ _ (encIs_pure _)
    · have ho' : (o = 0) = False := by simp [ho]
      rw [if_neg ho]
      simp -implicitDefEqProofs only [push_cast, Nat.reduceAdd, Nat.reduceSub, Nat.reduceMul, Nat.reduceLT, Nat.reduceLeDiff, Nat.reduceEqDiff, Nat.reduceBEq, reduceCtorEq, reduceIte, Int.reduceLE, Int.reduceLT, Int.reduceNeg, Int.reduceToNat, hd0, hw, ho', List.length_cons, List.length_nil, List.map_nil, List.map_cons, Int.reduceEq, Int.reduceAdd]
end
section
attribute [local push_cast] encT_mk encT_take encT_len encT_one encTs_pure encT_pure encJ_eq encJs_pure
theorem Has8_ok (l : List Tr) (t : Tr) (hl : l.length ≤ 1000) (hlo : ∀ x ∈ l, x.Ok) (ht : t.Ok) : Quiet Go.Proofs.Try.prog 36 [.sl (l.map encT), .agg (encT t)] (.bool (l.any fun x => sameT x t)) := by
  refine quiet_of (rs := #[.tmp 4]) Go.Proofs.Try.func36 rfl rfl rfl mixed rfl rfl fun H hs => ?_
  push_cast -implicitDefEqProofs [eq_self, iff_self]
  refine loop_at hs (σ := Nat) (fun i => i ≤ l.length ∧ (l.drop i).any (fun x => sameT x t) = l.any fun x => sameT x t) (fun i => l.length - i)
    (fun i => [(5, .int i), (0, .sl (l.map encT)), (3, .ptr (H.nxt + 0) 2 0 0)]) (fun i => [some (.cells 2 [encT t] 0)]) [some 0] 0 ⟨by omega, rfl⟩ rfl ?_ ?_ ?_
  · (try push_cast -implicitDefEqProofs [eq_self, iff_self, encTs_pure])
  · (try push_cast -implicitDefEqProofs [eq_self, iff_self])
  rintro i ⟨hi2, hany⟩
  by_cases hi : i < l.length
  · have hi' : ((i : Int) < (l.length : Int)) = True := by simp; omega
    have hi0 : (0 ≤ (i : Int)) = True := by simp
    have hget := encTs_get l i hi
    have hS := tree_sameR_ok l[i] t (hlo _ (List.getElem_mem hi)) ht
    rw [List.drop_eq_getElem_cons hi, List.any_cons] at hany
    generalize l[i] = x at hget hS hany
    push_cast -implicitDefEqProofs [eq_self, iff_self, hi', hi0, hget]
    refine areg_at 6 (by kernel_rfl) (by kernel_rfl) ?_
    push_cast -implicitDefEqProofs [eq_self, iff_self, hi', hi0, hget]
    refine ahdq hS ?_
    cases h : sameT x t
    · rw [h, Bool.false_or] at hany
      push_cast -implicitDefEqProofs [eq_self, iff_self, hi', hi0]
      rw [wrap64 (n := (i : Int) + 1) (by omega) (by omega)]
      refine next_at [some 0] (i + 1) ⟨by omega, hany⟩ (by omega) rfl ?_ ?_
      · (try push_cast -implicitDefEqProofs [eq_self, iff_self])
      · (try push_cast -implicitDefEqProofs [eq_self, iff_self])
    · rw [h, Bool.true_or] at hany
      push_cast -implicitDefEqProofs [eq_self, iff_self, hi', hi0, ← hany]
  · have hi' : ((i : Int) < (l.length : Int)) = False := by simp; omega
    rw [List.drop_eq_nil_of_le (by omega), List.any_nil] at hany
    push_cast -implicitDefEqProofs [eq_self, iff_self, hi', ← hany]
end
section
attribute [local push_cast] encIs_pure encNs_pure encN_eq encM_eq encJ_eq encJs_pure plus_obj0 plus_set0 piL_is00 piL_is0 piL_isk encIs_one encNs_four
theorem small_of {m : Mm} (h : m.may = true) : m.Small := form_small (may_f h)
end
section
attribute [local push_cast] encT_mk encT_take encT_len encT_one encTs_pure encT_pure encIs_pure encNs_pure encN_eq encM_eq encJ_eq encJs_pure plus_obj0 plus_set0 piL_is00 piL_is0 piL_isk encIs_one encNs_four
theorem treesM_short (m : Mm) (g : Int) : (treesM m g).length ≤ 184 := by
  by_cases h : m.may = true ∧ 0 ≤ g ∧ g < m.P.length
  · obtain ⟨k, rfl⟩ : ∃ k : Nat, g = k := ⟨g.toNat, by omega⟩
    rw [treesM_len ⟨h.1, by omega⟩, ← allTs_len]
    exact List.length_filter_le _ _
  · rw [treesM_out h]; simp
theorem treesM_ok {m : Mm} {g : Int} : ∀ t ∈ treesM m g, t.Ok := fun t ht => by
  rw [treesM_mem] at ht
  exact may_ok ht.2.1
end
section
mutual
theorem sameT_eq' : ∀ p q : Tr, sameT p q = true → p = q
  | .mk o l, .mk o' m, h => by
    simp only [sameT, Bool.and_eq_true, decide_eq_true_eq] at h
    obtain ⟨rfl, h⟩ := h
    rw [sameTL_eq' l m h]
theorem sameTL_eq' : ∀ l m : List Tr, sameTL l m = true → l = m
  | [], [], _ => rfl
  | x :: l, y :: m, h => by
    simp only [sameTL, Bool.and_eq_true] at h
    rw [sameT_eq' x y h.1, sameTL_eq' l m h.2]
  | [], _ :: _, h => by simp [sameTL] at h
  | _ :: _, [], h => by simp [sameTL] at h
end
theorem all_small' : ∀ i : Fin 15, sameTL (allT 3 (i.val : Int)) (allT 4 (i.val : Int)) = true := by decide +kernel
theorem all_small {a : Int} (h0 : 0 ≤ a) (h : a < 15) : allT 3 a = allT 4 a := by
  obtain ⟨i, rfl⟩ : ∃ i : Fin 15, a = (i.val : Int) := ⟨⟨a.toNat, by omega⟩, by simp; omega⟩
  exact sameTL_eq' _ _ (all_small' i)
theorem cutT_congr {f g : Int → List Tr} {s a : Int} (h : ∀ x : Int, 0 ≤ x → x < 15 → f x = g x) (ha : 1 ≤ a) (hs : s ≤ 15) : cutT f s a = cutT g s a := by
  unfold cutT
  split
  · rename_i hc
    simp only [Bool.and_eq_true, decide_eq_true_eq] at hc
    rw [h a (by omega) (by omega), h (s - a) (by omega) (by omega)]
  · rfl
theorem all_len (a : Int) : (allT 4 a).length ≤ 120 := by
  by_cases h : 1 ≤ a ∧ a < 16
  · obtain ⟨i, rfl⟩ : ∃ i : Fin 16, a = (i.val : Int) := ⟨⟨a.toNat, by omega⟩, by simp; omega⟩
    clear h
    revert i
    decide +kernel
  · rw [allT, if_neg h]; simp
theorem all_out {s : Int} (h : ¬ (1 ≤ s ∧ s < 16)) : allT 4 s = [] := by rw [allT, if_neg h]
def cutsU (s : Int) (n : Nat) : List Tr := (List.range n).flatMap fun (k : Nat) => cutT (allT 4) s ((k : Int) + 1)
theorem cutsU_zero (s : Int) : cutsU s 0 = [] := rfl
theorem cutsU_succ (s : Int) (n : Nat) : cutsU s (n + 1) = cutsU s n ++ cutT (allT 4) s ((n : Int) + 1) := by
  rw [cutsU, cutsU, List.range_succ, List.flatMap_append, List.flatMap_cons, List.flatMap_nil, List.append_nil]
theorem cutT_none {f : Int → List Tr} {s a : Int} (h : s ≤ a) : cutT f s a = [] := by
  unfold cutT
  rw [if_neg]
  simp only [Bool.and_eq_true, decide_eq_true_eq]
  omega
theorem cutsU_end {s : Int} {n : Nat} (h : s ≤ (n : Int) + 1) (m : Nat) : cutsU s (n + m) = cutsU s n := by
  induction m with
  | zero => rfl
  | succ m ih => rw [← Nat.add_assoc, cutsU_succ, ih, cutT_none (by omega), List.append_nil]
theorem allT_parts {s : Int} (h1 : 1 ≤ s) (h2 : s < 16) {n : Nat} (hn : s ≤ (n : Int) + 1) (hm : n ≤ 15) : allT 4 s = leafSet s ++ cutsU s n := by
  have e : cutsU s n = cutsU s 15 := by
    have := cutsU_end hn (15 - n)
    rw [show n + (15 - n) = 15 by omega] at this
    exact this.symm
  rw [e, allT, if_pos ⟨h1, h2⟩, cutsU]
  congr 1
  exact congrArg (fun f => List.flatMap f (List.range 15)) (funext fun k => cutT_congr (fun x => all_small) (by omega) (by omega))
theorem flatT_len {α β : Type} {f : α → List β} {m : Nat} (h : ∀ x, (f x).length ≤ m) : ∀ l : List α, (l.flatMap f).length ≤ l.length * m
  | [] => by simp
  | x :: l => by
    rw [List.flatMap_cons, List.length_append, List.length_cons, Nat.succ_mul]
    have := flatT_len h l
    have := h x
    omega
theorem cutT_len (s a : Int) : (cutT (allT 4) s a).length ≤ 14400 := by
  unfold cutT
  split
  · have h := flatT_len (f := fun x => (allT 4 (s - a)).map fun y => Tr.join x y) (m := 120) (fun x => by rw [List.length_map]; exact all_len _) (allT 4 a)
    have := all_len a
    omega
  · simp
theorem cutsU_len (s : Int) (n : Nat) : (cutsU s n).length ≤ n * 14400 := by
  have h := flatT_len (f := fun (k : Nat) => cutT (allT 4) s ((k : Int) + 1)) (m := 14400) (fun x => cutT_len _ _) (List.range n)
  rw [List.length_range] at h
  exact h
def leafU (s : Int) (n : Nat) : List Tr := ((List.range n).filter fun (o : Nat) => decide (s = 2 ^ o)).map fun (o : Nat) => Tr.leaf (o : Int)
theorem leafU_zero (s : Int) : leafU s 0 = [] := rfl
theorem leafU_four (s : Int) : leafU s 4 = leafSet s := rfl
theorem leafU_succ (s : Int) (n : Nat) : leafU s (n + 1) = leafU s n ++ (if s = 2 ^ n then [.leaf (n : Int)] else []) := by
  rw [leafU, leafU, List.range_succ, List.filter_append, List.map_append]
  congr 1
  by_cases h : s = 2 ^ n
  · rw [if_pos h, List.filter_cons, if_pos (decide_eq_true h)]; rfl
  · rw [if_neg h, List.filter_cons, if_neg (by simpa using h)]; rfl
theorem leafU_len (s : Int) (n : Nat) : (leafU s n).length ≤ n := by
  rw [leafU, List.length_map]
  have := List.length_filter_le (fun (o : Nat) => decide (s = (2 : Int) ^ o)) (List.range n)
  rw [List.length_range] at this
  exact this
def xsU (X Y : List Tr) (i : Nat) : List Tr := (X.take i).flatMap fun x => Y.map fun y => Tr.join x y
theorem xsU_zero (X Y : List Tr) : xsU X Y 0 = [] := rfl
theorem xsU_succ (X Y : List Tr) {i : Nat} (h : i < X.length) : xsU X Y (i + 1) = xsU X Y i ++ Y.map fun y => Tr.join X[i] y := by
  rw [xsU, xsU, List.take_succ_eq_append_getElem h, List.flatMap_append, List.flatMap_cons, List.flatMap_nil, List.append_nil]
theorem xsU_all (X Y : List Tr) : xsU X Y X.length = X.flatMap fun x => Y.map fun y => Tr.join x y := by rw [xsU, List.take_length]
theorem xsU_len (X Y : List Tr) (hX : X.length ≤ 120) (hY : Y.length ≤ 120) (i : Nat) : (xsU X Y i).length ≤ 14400 := by
  have h := flatT_len (f := fun x => Y.map fun y => Tr.join x y) (m := 120) (fun x => by rw [List.length_map]; exact hY) (X.take i)
  have : (X.take i).length ≤ 120 := by rw [List.length_take]; omega
  unfold xsU
  omega
def ysU (x : Tr) (Y : List Tr) (j : Nat) : List Tr := (Y.take j).map fun y => Tr.join x y
theorem ysU_zero (x : Tr) (Y : List Tr) : ysU x Y 0 = [] := rfl
theorem ysU_succ (x : Tr) (Y : List Tr) {j : Nat} (h : j < Y.length) : ysU x Y (j + 1) = ysU x Y j ++ [.join x Y[j]] := by
  rw [ysU, ysU, List.take_succ_eq_append_getElem h, List.map_append]; rfl
theorem ysU_all (x : Tr) (Y : List Tr) : ysU x Y Y.length = Y.map fun y => Tr.join x y := by rw [ysU, List.take_length]
theorem ysU_len (x : Tr) (Y : List Tr) (j : Nat) : (ysU x Y j).length ≤ Y.length := by rw [ysU, List.length_map, List.length_take]; omega
def rowT (R S : List Tr) : List Tr := R ++ S
theorem rowT_nil (R : List Tr) : rowT R [] = R := List.append_nil R
theorem rowT_len (R S : List Tr) : (rowT R S).length = R.length + S.length := List.length_append
theorem rowT_app (R S T : List Tr) : rowT R (S ++ T) = rowT (rowT R S) T := (List.append_assoc R S T).symm
theorem rowT_one (R : List Tr) (t : Tr) : (rowT R [t]).length = R.length + 1 := List.length_append
end
section
attribute [local push_cast] encT_mk encT_take encT_len encT_one encTs_pure encT_pure
theorem AllT_out {s : Int} (h : ¬ (1 ≤ s ∧ s < 16)) : Quiet Go.Proofs.Try.prog 38 [.int s] (.sl ((allT 4 s).map encT)) := by
  rw [all_out h]
  refine quiet_of (rs := #[.tmp 2]) Go.Proofs.Try.func38 rfl rfl rfl mixed rfl rfl fun H hs => ?_
  by_cases h1 : s < 1
  · have h1' : (s < 1) = True := by simp [h1]
    push_cast -implicitDefEqProofs [eq_self, iff_self, h1', List.map_nil]
  · have h1' : (s < 1) = False := by simp [h1]
    have h2' : (16 ≤ s) = True := by simp; omega
    push_cast -implicitDefEqProofs [eq_self, iff_self, h1', h2', List.map_nil]
set_option maxHeartbeats 8000000 in
theorem AllT_in (s : Int) (h1 : 1 ≤ s) (h2 : s < 16) (ih : ∀ a : Int, a < s → Quiet Go.Proofs.Try.prog 38 [.int a] (.sl ((allT 4 a).map encT))) : Quiet Go.Proofs.Try.prog 38 [.int s] (.sl ((allT 4 s).map encT)) := by
  have h1' : (s < 1) = False := by simp; omega
  have h2' : (16 ≤ s) = False := by simp; omega
  refine quiet_of (rs := #[.tmp 2]) Go.Proofs.Try.func38 rfl rfl rfl mixed rfl rfl fun H hs => ?_
  push_cast -implicitDefEqProofs [eq_self, iff_self, h1', h2']
  refine loop_at hs (σ := Nat) (fun o => o ≤ 4) (fun o => 4 - o)
    (fun o => [(16, .int o), (0, .int s), (3, .rsl (H.nxt + 0) 2 0 (leafU s o).length)]) (fun o => [some (.cells 2 ((leafU s o).map encT) 0)]) [none] 0 (by omega) rfl ?_ ?_ ?_
  · (try push_cast -implicitDefEqProofs [eq_self, iff_self, leafU_zero, List.map_nil])
  · (try push_cast -implicitDefEqProofs [eq_self, iff_self, leafU_zero, List.map_nil])
  · intro o ho
    have hlen := leafU_len s o
    have hsn := leafU_succ s o
    by_cases hol : o < 4
    · have ho' : ((o : Int) < 4) = True := by simp; omega
      have ho0 : (0 ≤ (o : Int)) = True := by simp
      have hp := shl_pow o (by omega)
      generalize leafU s o = row at hlen hsn ⊢
      have hL := Leaf_ok (o : Int)
      generalize Tr.leaf (o : Int) = lf at hsn hL
      push_cast -implicitDefEqProofs [eq_self, iff_self, ho', ho0, hp]
      refine ⟨fun h => ?_, fun h => ?_⟩
      · refine callq hL ?_
        push_cast -implicitDefEqProofs [eq_self, iff_self]
        rw [if_pos h] at hsn
        have hln : (leafU s (o + 1)).length = row.length + 1 := by rw [hsn, List.length_append]; rfl
        have hrw : (leafU s (o + 1)).map encT = row.map encT ++ [encT lf] := by rw [hsn, List.map_append]; rfl
        have hcap : List.take row.length (row.map encT) = row.map encT := List.take_of_length_le (by simp)
        rw [wrap64 (n := (o : Int) + 1) (by omega) (by omega)]
        refine ⟨by omega, next_at [some 2] (o + 1) (by omega) (by omega) rfl ?_ ?_⟩
        · (try push_cast -implicitDefEqProofs [eq_self, iff_self, hln])
        · (try push_cast -implicitDefEqProofs [eq_self, iff_self, hcap])
          rw [hrw]
          exact ⟨sealLL_snoc (sealLL_pure _ _ _ (encTs_pure row)) (sealL_pure _ _ _ (encT_pure lf)), fun e he => by rw [← hrw] at he; exact of_eq_true (encTs_two _) e he⟩
      · rw [if_neg h, List.append_nil] at hsn
        rw [wrap64 (n := (o : Int) + 1) (by omega) (by omega)]
        refine next_at [some 0] (o + 1) (by omega) (by omega) rfl ?_ ?_
        · (try push_cast -implicitDefEqProofs [eq_self, iff_self, hsn])
        · (try push_cast -implicitDefEqProofs [eq_self, iff_self, hsn])
          exact of_eq_true (encTs_two _)
    · have ho' : ((o : Int) < 4) = False := by simp; omega
      have e4 : leafU s o = leafSet s := by rw [show o = 4 by omega, leafU_four]
      rw [e4]
      have hl4 : (leafSet s).length ≤ 4 := leafU_len s 4
      push_cast -implicitDefEqProofs [eq_self, iff_self, ho']
      refine loop_at hs (σ := Nat) (fun n => (n : Int) < s) (fun n => 16 - n)
        (fun n => [(5, .int ((n : Int) + 1)), (0, .int s), (3, .rsl (H.nxt + 0) 2 0 (rowT (leafSet s) (cutsU s n)).length)]) (fun n => [some (.cells 2 ((rowT (leafSet s) (cutsU s n)).map encT) 0)]) [some 0] 0 (by omega) rfl ?_ ?_ ?_
      · (try push_cast -implicitDefEqProofs [eq_self, iff_self, cutsU_zero, rowT_nil, Int.zero_add])
      · (try push_cast -implicitDefEqProofs [eq_self, iff_self, cutsU_zero, rowT_nil])
        exact of_eq_true (encTs_two _)
      intro n hn
      have hcl := cutsU_len s n
      have hsu := cutsU_succ s n
      have hal : (rowT (leafSet s) (cutsU s n)).length ≤ 4 + n * 14400 := by rw [rowT_len]; omega
      by_cases hna : (n : Int) + 1 < s
      · have hna' : ((n : Int) + 1 < s) = True := by simp [hna]
        have hrow1 : rowT (leafSet s) (cutsU s (n + 1)) = rowT (rowT (leafSet s) (cutsU s n)) (cutT (allT 4) s ((n : Int) + 1)) := by rw [hsu, rowT_app]
        generalize hR : rowT (leafSet s) (cutsU s n) = row at hal hrow1 ⊢
        have hX := ih ((n : Int) + 1) hna
        have hY := ih (s - ((n : Int) + 1)) (by omega)
        have hXl := all_len ((n : Int) + 1)
        have hYl := all_len (s - ((n : Int) + 1))
        by_cases hb : band .i64 ((n : Int) + 1) s = (n : Int) + 1
        · have hb' : (band .i64 ((n : Int) + 1) s = (n : Int) + 1) = True := by simp [hb]
          rw [cutT, if_pos (by rw [decide_eq_true hna, decide_eq_true hb]; rfl)] at hrow1
          generalize allT 4 ((n : Int) + 1) = X at hX hXl hrow1
          generalize allT 4 (s - ((n : Int) + 1)) = Y at hY hYl hrow1
          rw [← xsU_all] at hrow1
          push_cast -implicitDefEqProofs [eq_self, iff_self, hna', hb']
          refine callq hX ?_
          push_cast -implicitDefEqProofs [eq_self, iff_self]
          refine loop_at hs (σ := Nat) (fun i => i ≤ X.length) (fun i => X.length - i)
            (fun i => [(42, .int i), (41, .int X.length), (40, .sl (X.map encT)), (5, .int ((n : Int) + 1)), (0, .int s), (3, .rsl (H.nxt + 0) 2 0 (rowT row (xsU X Y i)).length)]) (fun i => [some (.cells 2 ((rowT row (xsU X Y i)).map encT) 0)]) [some 0] 0 (by omega) rfl ?_ ?_ ?_
          · (try push_cast -implicitDefEqProofs [eq_self, iff_self, xsU_zero, rowT_nil, encTs_pure])
          · (try push_cast -implicitDefEqProofs [eq_self, iff_self, xsU_zero, rowT_nil, encTs_pure])
            exact of_eq_true (encTs_two _)
          intro i hi2
          have hxl := xsU_len X Y hXl hYl i
          have hxr : (rowT row (xsU X Y i)).length ≤ 4 + n * 14400 + 14400 := by rw [rowT_len]; omega
          by_cases hi : i < X.length
          · have hi' : ((i : Int) < (X.length : Int)) = True := by simp; omega
            have hi0 : (0 ≤ (i : Int)) = True := by simp
            have hxs : rowT row (xsU X Y (i + 1)) = rowT (rowT row (xsU X Y i)) (ysU X[i] Y Y.length) := by rw [xsU_succ X Y hi, rowT_app, ysU_all]
            generalize hR2 : rowT row (xsU X Y i) = row2 at hxr hxs ⊢
            have hget := encTs_get X i hi
            generalize X[i] = x at hget hxs
            push_cast -implicitDefEqProofs [eq_self, iff_self, hi', hi0, hget]
            rw [wrap64 (n := s - ((n : Int) + 1)) (by omega) (by omega)]
            refine callq hY ?_
            push_cast -implicitDefEqProofs [eq_self, iff_self]
            refine loop_at hs (σ := Nat) (fun j => j ≤ Y.length) (fun j => Y.length - j)
              (fun j => [(51, .int j), (50, .int Y.length), (49, .sl (Y.map encT)), (7, .ptr (H.nxt + 1) 2 0 0), (42, .int i), (41, .int X.length), (40, .sl (X.map encT)), (5, .int ((n : Int) + 1)), (0, .int s), (3, .rsl (H.nxt + 0) 2 0 (rowT row2 (ysU x Y j)).length)]) (fun j => [some (.cells 2 ((rowT row2 (ysU x Y j)).map encT) 0), some (.cells 2 [encT x] 0)]) [some 0, some 1] 0 (by omega) rfl ?_ ?_ ?_
            · (try push_cast -implicitDefEqProofs [eq_self, iff_self, ysU_zero, rowT_nil, encTs_pure])
            · (try push_cast -implicitDefEqProofs [eq_self, iff_self, ysU_zero, rowT_nil, encTs_pure])
              exact of_eq_true (encTs_two _)
            intro j hj2
            have hyl := ysU_len x Y j
            have hyr : (rowT row2 (ysU x Y j)).length ≤ 4 + n * 14400 + 14400 + 120 := by rw [rowT_len]; omega
            by_cases hj : j < Y.length
            · have hj' : ((j : Int) < (Y.length : Int)) = True := by simp; omega
              have hj0 : (0 ≤ (j : Int)) = True := by simp
              have hys : rowT row2 (ysU x Y (j + 1)) = rowT (rowT row2 (ysU x Y j)) [.join x Y[j]] := by rw [ysU_succ x Y hj, rowT_app]
              generalize hR3 : rowT row2 (ysU x Y j) = row3 at hyr hys ⊢
              have hget2 := encTs_get Y j hj
              have hJ := Join_ok x Y[j]
              generalize Y[j] = y at hget2 hys hJ
              generalize Tr.join x y = xy at hys hJ
              push_cast -implicitDefEqProofs [eq_self, iff_self, hj', hj0, hget2]
              refine callq hJ ?_
              push_cast -implicitDefEqProofs [eq_self, iff_self]
              have hln : (rowT row2 (ysU x Y (j + 1))).length = row3.length + 1 := by rw [hys, rowT_one]
              have hrw : (rowT row2 (ysU x Y (j + 1))).map encT = row3.map encT ++ [encT xy] := by rw [hys, rowT, List.map_append]; rfl
              have hcap : List.take row3.length (row3.map encT) = row3.map encT := List.take_of_length_le (by simp)
              rw [wrap64 (n := (j : Int) + 1) (by omega) (by omega)]
              refine ⟨by omega, next_at [some 4, some 1] (j + 1) (by omega) (by omega) rfl ?_ ?_⟩
              · (try push_cast -implicitDefEqProofs [eq_self, iff_self, hln, encTs_pure])
              · (try push_cast -implicitDefEqProofs [eq_self, iff_self, hcap])
                rw [hrw]
                exact ⟨sealLL_snoc (sealLL_pure _ _ _ (encTs_pure row3)) (sealL_pure _ _ _ (encT_pure xy)), fun e he => by rw [← hrw] at he; exact of_eq_true (encTs_two _) e he⟩
            · have hj' : ((j : Int) < (Y.length : Int)) = False := by simp; omega
              obtain rfl : j = Y.length := by omega
              rw [← hxs]
              push_cast -implicitDefEqProofs [eq_self, iff_self, hj']
              rw [wrap64 (n := (i : Int) + 1) (by omega) (by omega)]
              refine next_at [some 0] (i + 1) (by omega) (by omega) rfl ?_ ?_
              · (try push_cast -implicitDefEqProofs [eq_self, iff_self, encTs_pure])
              · (try push_cast -implicitDefEqProofs [eq_self, iff_self, encTs_pure])
                exact of_eq_true (encTs_two _)
          · have hi' : ((i : Int) < (X.length : Int)) = False := by simp; omega
            obtain rfl : i = X.length := by omega
            rw [← hrow1]
            push_cast -implicitDefEqProofs [eq_self, iff_self, hi']
            rw [wrap64 (n := (n : Int) + 1 + 1) (by omega) (by omega)]
            refine next_at [some 0] (n + 1) (by omega) (by omega) rfl ?_ ?_
            · (try push_cast -implicitDefEqProofs [eq_self, iff_self, encTs_pure])
            · (try push_cast -implicitDefEqProofs [eq_self, iff_self, encTs_pure])
              exact of_eq_true (encTs_two _)
        · have hb' : (band .i64 ((n : Int) + 1) s = (n : Int) + 1) = False := by simp [hb]
          rw [cutT, if_neg (by rw [decide_eq_false hb, Bool.and_false]; exact Bool.false_ne_true), rowT_nil] at hrow1
          push_cast -implicitDefEqProofs [eq_self, iff_self, hna', hb']
          rw [wrap64 (n := (n : Int) + 1 + 1) (by omega) (by omega)]
          refine next_at [some 0] (n + 1) (by omega) (by omega) rfl ?_ ?_
          · (try push_cast -implicitDefEqProofs [eq_self, iff_self, hrow1])
          · (try push_cast -implicitDefEqProofs [eq_self, iff_self, hrow1])
            exact of_eq_true (encTs_two _)
      · have hna' : ((n : Int) + 1 < s) = False := by simp; omega
        have hp := allT_parts h1 h2 (n := n) (by omega) (by omega)
        have hp' : rowT (leafSet s) (cutsU s n) = allT 4 s := hp.symm
        rw [hp']
        have hcap : List.take (allT 4 s).length ((allT 4 s).map encT) = (allT 4 s).map encT := List.take_of_length_le (by simp)
        push_cast -implicitDefEqProofs [eq_self, iff_self, hna']
        rw [hcap]
        exact sealLL_pure _ _ _ (encTs_pure _)
theorem AllT_n : ∀ (n : Nat) (s : Int), s < (n : Int) → Quiet Go.Proofs.Try.prog 38 [.int s] (.sl ((allT 4 s).map encT)) := by
  intro n
  induction n with
  | zero => intro s hs; exact AllT_out (by omega)
  | succ n ih =>
    intro s hs
    by_cases h : 1 ≤ s ∧ s < 16
    · exact AllT_in s h.1 h.2 fun a ha => ih a (by omega)
    · exact AllT_out h
theorem AllT_ok (s : Int) : Quiet Go.Proofs.Try.prog 38 [.int s] (.sl ((allT 4 s).map encT)) := AllT_n (s.toNat + 1) s (by omega)
end
section
theorem all_of {p : Int → Tr → Bool} (h : ∀ a : Fin 16, ((allT 4 (a.val : Int)).all fun t => p (a.val : Int) t) = true) {t : Tr} (ht : t.may = true) : p (setT 4 t).1 t = true := by
  have h1 := setT_range 4 t
  have h2 := h ⟨(setT 4 t).1.toNat, by omega⟩
  have e : (((setT 4 t).1.toNat : Nat) : Int) = (setT 4 t).1 := by omega
  dsimp only at h2
  rw [e] at h2
  exact List.all_eq_true.1 h2 t ((allT_mem 4 _ t).2 ⟨ht, rfl⟩)
def stepA (adj : List Nat) (m : Nat) : Nat := (List.range adj.length).foldl (fun m i => if m.testBit i then m ||| adj.getD i 0 else m) m
def itM (adj : List Nat) : Nat → Nat → Nat
  | 0, m => m
  | k + 1, m => itM adj k (stepA adj m)
def maskOf (f : Nat → Bool) (n : Nat) : Nat := (List.range n).foldl (fun m j => if f j then m ||| 2 ^ j else m) 0
theorem maskOf_bit (f : Nat → Bool) : ∀ (n j : Nat), (maskOf f n).testBit j = true → j < n ∧ f j = true
  | 0, j, h => by simp [maskOf] at h
  | n + 1, j, h => by
    have ih := maskOf_bit f n j
    unfold maskOf at h ih
    rw [List.range_succ, List.foldl_append] at h
    simp only [List.foldl_cons, List.foldl_nil] at h
    split at h
    · rename_i hf
      rw [Nat.testBit_or, Bool.or_eq_true] at h
      rcases h with h | h
      · obtain ⟨h1, h2⟩ := ih h; exact ⟨by omega, h2⟩
      · rw [Nat.testBit_two_pow] at h
        simp only [decide_eq_true_eq] at h
        subst h
        exact ⟨by omega, hf⟩
    · obtain ⟨h1, h2⟩ := ih h; exact ⟨by omega, h2⟩
theorem step_inv {adj : List Nat} {p : Nat → Prop} (ha : ∀ i, p i → ∀ j, (adj.getD i 0).testBit j = true → p j) (m : Nat) (hm : ∀ i, m.testBit i = true → p i) : ∀ i, (stepA adj m).testBit i = true → p i := by
  unfold stepA
  generalize List.range adj.length = l
  induction l generalizing m with
  | nil => exact hm
  | cons k l ih =>
    rw [List.foldl_cons]
    refine ih _ ?_
    intro i hi
    split at hi
    · rename_i hk
      rw [Nat.testBit_or, Bool.or_eq_true] at hi
      rcases hi with h | h
      · exact hm i h
      · exact ha k (hm k hk) i h
    · exact hm i hi
theorem it_inv {adj : List Nat} {p : Nat → Prop} (ha : ∀ i, p i → ∀ j, (adj.getD i 0).testBit j = true → p j) : ∀ (k m : Nat), (∀ i, m.testBit i = true → p i) → ∀ i, (itM adj k m).testBit i = true → p i
  | 0, m, hm => hm
  | k + 1, m, hm => it_inv ha k _ (step_inv ha m hm)
def fwd (A : List Tr) : List Nat := A.map fun t => let N := nextT 4 t; maskOf (fun j => N.any fun x => sameT x (A.getD j trO)) A.length
def bwd (A : List Tr) : List Nat := (List.range A.length).map fun i => maskOf (fun j => (nextT 4 (A.getD j trO)).any fun x => sameT x (A.getD i trO)) A.length
def linked (A : List Tr) : Bool := (itM (fwd A) 14 1 == 2 ^ A.length - 1) && (itM (bwd A) 14 1 == 2 ^ A.length - 1)
theorem all_linked : ∀ a : Fin 16, ((allT 4 (a.val : Int)).isEmpty || linked (allT 4 (a.val : Int))) = true := by decide +kernel
theorem getD_at {A : List Tr} {i : Nat} (h : i < A.length) : A.getD i trO = A[i] := by rw [List.getD_eq_getElem?_getD, List.getElem?_eq_getElem h]; rfl
theorem linked_all {A : List Tr} (h : linked A = true) (S : Tr → Prop) (hS : ∀ t ∈ A, S t → ∀ x ∈ nextT 4 t, S x) {t : Tr} (ht : t ∈ A) (hSt : S t) : ∀ s ∈ A, S s := by
  unfold linked at h
  simp only [Bool.and_eq_true, beq_iff_eq] at h
  obtain ⟨hf, hb⟩ := h
  have hpos : 0 < A.length := List.length_pos_of_mem ht
  have hall : ∀ i, i < A.length → (2 ^ A.length - 1).testBit i = true := fun i hi => by rw [Nat.testBit_two_pow_sub_one]; simpa using hi
  have one : ∀ i, (1 : Nat).testBit i = true → i = 0 := fun i hi => by
    rw [show (1 : Nat) = 2 ^ 0 from rfl, Nat.testBit_two_pow] at hi
    exact (by simpa using hi : 0 = i).symm
  have h0 : S (A.getD 0 trO) := by
    obtain ⟨i, hi, rfl⟩ := List.mem_iff_getElem.1 ht
    have := it_inv (adj := bwd A) (p := fun i => i < A.length → S (A.getD i trO) → S (A.getD 0 trO)) (fun i hp j hj hjl hsj => ?_) 14 1 (fun i hi _ hs => by rw [one i hi] at hs; exact hs) i (by rw [hb]; exact hall i hi) hi
    · rw [getD_at hi] at this
      exact this hSt
    · by_cases hil : i < A.length
      · unfold bwd at hj
        rw [List.getD_eq_getElem?_getD, List.getElem?_map, List.getElem?_range hil] at hj
        obtain ⟨_, hj2⟩ := maskOf_bit _ _ _ hj
        rw [List.any_eq_true] at hj2
        obtain ⟨x, hx, hxe⟩ := hj2
        rw [sameT_eq' _ _ hxe] at hx
        exact hp hil (hS _ (by rw [getD_at hjl]; exact List.getElem_mem _) hsj _ hx)
      · unfold bwd at hj
        rw [List.getD_eq_getElem?_getD, List.getElem?_map, List.getElem?_eq_none (by simpa using hil)] at hj
        simp at hj
  intro s hs
  obtain ⟨i, hi, rfl⟩ := List.mem_iff_getElem.1 hs
  have := it_inv (adj := fwd A) (p := fun i => i < A.length ∧ S (A.getD i trO)) (fun i hp j hj => ?_) 14 1 (fun i hi => by rw [one i hi]; exact ⟨hpos, h0⟩) i (by rw [hf]; exact hall i hi)
  · rw [getD_at hi] at this
    exact this.2
  · unfold fwd at hj
    rw [List.getD_eq_getElem?_getD, List.getElem?_map, List.getElem?_eq_getElem hp.1] at hj
    obtain ⟨hj1, hj2⟩ := maskOf_bit _ _ _ hj
    rw [List.any_eq_true] at hj2
    obtain ⟨x, hx, hxe⟩ := hj2
    rw [sameT_eq' _ _ hxe] at hx
    have h2 := hp.2
    rw [getD_at hp.1] at h2
    exact ⟨hj1, hS _ (List.getElem_mem hp.1) h2 _ hx⟩
theorem next_may {t : Tr} (ht : t.may = true) : ∀ x ∈ nextT 4 t, x.may = true := by
  have := all_of (p := fun _ t => (nextT 4 t).all fun x => x.may) (by decide +kernel) ht
  exact fun x hx => List.all_eq_true.1 this x hx
theorem linked_set (S : Tr → Prop) (hS : ∀ t, t.may = true → S t → ∀ x ∈ nextT 4 t, S x) {t s : Tr} (ht : t.may = true) (hs : s.may = true) (he : (setT 4 t).1 = (setT 4 s).1) (h : S t) : S s := by
  have hr := setT_range 4 t
  have hmem : t ∈ allT 4 (setT 4 t).1 := (allT_mem 4 _ t).2 ⟨ht, rfl⟩
  have hl := all_linked ⟨(setT 4 t).1.toNat, by omega⟩
  have e : (((setT 4 t).1.toNat : Nat) : Int) = (setT 4 t).1 := by omega
  dsimp only at hl
  rw [e, Bool.or_eq_true] at hl
  rcases hl with hl | hl
  · rw [List.isEmpty_iff] at hl
    rw [hl] at hmem
    cases hmem
  · exact linked_all hl S (fun u hu => hS u ((allT_mem 4 _ u).1 hu).1) hmem h s ((allT_mem 4 _ s).2 ⟨hs, he.symm⟩)
theorem small_deep {t : Tr} (ht : t.may = true) (h : (setT 4 t).1 ≠ 15) : (setT 3 t).2 = true := by
  have := all_of (p := fun a t => decide (a = 15) || (setT 3 t).2) (by decide +kernel) ht
  simpa [h] using this
theorem may_join {u v : Tr} (hu : u.may = true) (hv : v.may = true) (h : band .i64 (setT 4 u).1 (setT 4 v).1 = 0) : (Tr.join u v).may = true ∧ (setT 4 (Tr.join u v)).1 = (setT 4 u).1 + (setT 4 v).1 := by
  have pu := setT_pos 4 u hu
  have pv := setT_pos 4 v hv
  have ru := setT_range 4 u
  have rv := setT_range 4 v
  have hc := cut16 pu ru.2 pv rv.2 h
  have du := small_deep hu (by omega)
  have dv := small_deep hv (by omega)
  have eu := setT_up 3 u du
  have ev := setT_up 3 v dv
  rw [Tr.may, Tr.join, setT_two, if_pos rfl]
  rw [eu, ev] at hc h
  rw [eu, ev]
  exact ⟨by rw [du, dv, decide_eq_true h]; rfl, hc.1⟩
theorem may_parts {u v : Tr} (h : (Tr.join u v).may = true) : u.may = true ∧ v.may = true ∧ band .i64 (setT 4 u).1 (setT 4 v).1 = 0 ∧ (setT 4 (Tr.join u v)).1 = (setT 4 u).1 + (setT 4 v).1 ∧ (setT 3 u).2 = true ∧ (setT 3 v).2 = true := by
  obtain ⟨h1, h2, h3⟩ := setT_join (d := 3) h
  have hu := setT_to4 (by decide) h1
  have hv := setT_to4 (by decide) h2
  have eu := setT_up 3 u h1
  have ev := setT_up 3 v h2
  rw [← eu, ← ev] at h3
  exact ⟨hu, hv, h3, (may_join hu hv h3).2, h1, h2⟩
end
section
theorem mkT_deep {m : Mm} : ∀ {d e g : Nat} {t : Tr}, mkT m d g t → (setT e t).2 = true → mkT m e g t
  | 0, _, _, _, h, _ => h.elim
  | d + 1, 0, g, t, _, h => by simp [setT] at h
  | d + 1, e + 1, g, t, ⟨i, hi, h1, h2⟩, h => by
    refine ⟨i, hi, h1, ?_⟩
    unfold stepM at h2 ⊢
    split
    · rename_i hj
      rw [if_pos hj] at h2
      obtain ⟨u, v, hu, hv, rfl, hm⟩ := h2
      obtain ⟨k1, k2, _⟩ := setT_join h
      exact ⟨u, v, mkT_deep hu k1, mkT_deep hv k2, rfl, hm⟩
    · rename_i hj
      rw [if_neg hj] at h2
      exact h2
theorem join_inj {a b c d : Tr} (h : Tr.join a b = Tr.join c d) : a = c ∧ b = d := by
  unfold Tr.join at h
  injection h with _ h
  injection h with h1 h
  injection h with h2 _
  exact ⟨h1, h2⟩
theorem join_leaf {a b : Tr} {o : Int} (h : Tr.join a b = Tr.leaf o) : False := by
  unfold Tr.join Tr.leaf at h
  injection h with _ h
  cases h
theorem leaf_inj {o p : Int} (h : Tr.leaf o = Tr.leaf p) : o = p := by
  unfold Tr.leaf at h
  injection h
theorem join_in {m : Mm} {n : Nd} (hj : n.jn = true) {g : Nat} (h : HasN m n g) {u v : Tr} (hu : mkT m 4 (ro m n.a.toNat) u) (hv : mkT m 4 (ro m n.b.toNat) v) (hm : (Tr.join u v).may = true) : mkT m 4 g (.join u v) := by
  obtain ⟨i, hi, ⟨s1, _, s3⟩, rfl⟩ := h
  obtain ⟨_, _, _, _, du, dv⟩ := may_parts hm
  obtain ⟨e1, e2⟩ := s3 (s1.trans hj)
  refine ⟨i, hi, rfl, ?_⟩
  unfold stepM
  rw [if_pos (show (m.N.getD i nd0).jn = true from s1.trans hj)]
  refine ⟨u, v, ?_, ?_, rfl, hm⟩
  · have e : raM m i = ro m n.a.toNat := e1
    rw [e]; exact mkT_deep hu du
  · have e : rbM m i = ro m n.b.toNat := e2
    rw [e]; exact mkT_deep hv dv
theorem join_out {m : Mm} {d g : Nat} {u v : Tr} (h : mkT m d g (.join u v)) : ∃ i, i < m.N.length ∧ (nd m i).jn = true ∧ ro m (gi m i) = g ∧ mkT m 4 (ro m (nd m i).a.toNat) u ∧ mkT m 4 (ro m (nd m i).b.toNat) v ∧ (Tr.join u v).may = true := by
  cases d with
  | zero => exact h.elim
  | succ d =>
    obtain ⟨i, hi, h1, h2⟩ := h
    unfold stepM at h2
    split at h2
    · rename_i hj
      obtain ⟨u', v', hu, hv, he, hm⟩ := h2
      obtain ⟨rfl, rfl⟩ := join_inj he
      obtain ⟨mu, mv, _⟩ := may_parts hm
      exact ⟨i, hi, hj, h1, mkT_deep hu mu, mkT_deep hv mv, hm⟩
    · exact (join_leaf h2).elim
structure FullC (w : Mm) : Prop where
  turn : ∀ e, e < w.N.length → (nd w e).jn = true → HasN w (ndJ (nd w e).b (nd w e).a) (ro w (gi w e))
  move : ∀ e f, e < w.N.length → f < w.N.length → (nd w e).jn = true → (nd w f).jn = true → ro w (gi w f) = ro w (nd w e).a.toNat → ∃ r : Nat, r < w.P.length ∧ HasN w (ndJ (nd w f).b (nd w e).b) (ro w r) ∧ HasN w (ndJ (nd w f).a (r : Nat)) (ro w (gi w e))
theorem two1_join {t : Tr} (ht : t.may = true) (h : (two1 t).2.2 = true) : t = .join (two1 t).1 (two1 t).2.1 := by
  rcases tr_form (d := 3) ht with ⟨o, rfl⟩ | ⟨a, b, rfl⟩
  · cases h
  · rfl
theorem mem_optL {x : Tr} {y : Tr × Bool} (h : x ∈ optL y) : y.2 = true ∧ x = y.1 := by
  unfold optL at h
  split at h
  · rename_i h2; exact ⟨h2, List.mem_singleton.1 h⟩
  · cases h
theorem self_has {m : Mm} {i : Nat} (hi : i < m.N.length) : HasN m (nd m i) (ro m (gi m i)) := ⟨i, hi, sameC.refl _ _, rfl⟩
theorem next_in {m : Mm} (hc : FullC m) : ∀ (d : Nat) {t : Tr} {g : Nat}, t.may = true → mkT m 4 g t → ∀ x ∈ nextT d t, x.may = true → mkT m 4 g x
  | 0, t, g, _, _, x, hx, _ => by cases hx
  | d + 1, t, g, ht, h, x, hx, hxm => by
    rw [nextT, List.mem_append] at hx
    rcases hx with hx | hx
    · rw [List.mem_append] at hx
      rcases hx with hx | hx
      · obtain ⟨h1, rfl⟩ := mem_optL hx
        rw [byR, if_pos ht] at h1 hxm ⊢
        unfold turnR at h1 hxm ⊢
        split at h1
        · rename_i h2
          rw [if_pos h2] at hxm ⊢
          have e := two1_join ht h2
          generalize (two1 t).1 = a at e hxm ⊢
          generalize (two1 t).2.1 = b at e hxm ⊢
          subst e
          obtain ⟨i, hi, hj, rfl, ha, hb, _⟩ := join_out h
          exact join_in rfl (hc.turn i hi hj) hb ha hxm
        · cases h1
      · obtain ⟨h1, rfl⟩ := mem_optL hx
        rw [byR, if_pos ht] at h1 hxm ⊢
        unfold moveR at h1 hxm ⊢
        split at h1
        · rename_i h2
          rw [if_pos h2] at hxm ⊢
          rw [Bool.and_eq_true] at h2
          have e := two1_join ht h2.1
          generalize (two1 t).1 = a at e hxm h2 ⊢
          generalize (two1 t).2.1 = b at e hxm h2 ⊢
          subst e
          obtain ⟨ma, mb, _⟩ := may_parts ht
          have e := two1_join ma h2.2
          generalize (two1 a).1 = c at e hxm ⊢
          generalize (two1 a).2.1 = k at e hxm ⊢
          subst e
          obtain ⟨i, hi, hj, rfl, ha, hb, _⟩ := join_out h
          obtain ⟨f, hf, hfj, hfg, hcc, hk, _⟩ := join_out ha
          obtain ⟨r, hr, r1, r2⟩ := hc.move i f hi hf hj hfj hfg
          have hkb := join_in rfl r1 hk hb (may_parts hxm).2.1
          exact join_in rfl r2 hcc hkb hxm
        · cases h1
    · split at hx
      · rename_i h2
        have e := two1_join ht h2
        generalize (two1 t).1 = a at e hx
        generalize (two1 t).2.1 = b at e hx
        subst e
        obtain ⟨ma, mb, _⟩ := may_parts ht
        obtain ⟨i, hi, hj, rfl, ha, hb, _⟩ := join_out h
        rw [List.mem_append] at hx
        rcases hx with hx | hx
        · obtain ⟨y, hy, rfl⟩ := List.mem_map.1 hx
          exact join_in hj (self_has hi) (next_in hc d ma ha y hy (may_parts hxm).1) hb hxm
        · obtain ⟨y, hy, rfl⟩ := List.mem_map.1 hx
          exact join_in hj (self_has hi) ha (next_in hc d mb hb y hy (may_parts hxm).2.1) hxm
      · cases hx
theorem mk_one {m : Mm} (hc : Closed m) : ∀ {d e g h : Nat} {t : Tr}, mkT m d g t → mkT m e h t → g = h
  | 0, _, _, _, _, h, _ => h.elim
  | d + 1, 0, _, _, _, _, h => h.elim
  | d + 1, e + 1, g, h, t, ⟨i, hi, h1, h2⟩, ⟨k, hk, k1, k2⟩ => by
    rw [← h1, ← k1]
    refine hc i k hi hk ?_
    unfold stepM at h2 k2
    split at h2
    · rename_i hj
      obtain ⟨u, v, hu, hv, rfl, _⟩ := h2
      split at k2
      · rename_i hj'
        obtain ⟨u', v', hu', hv', he, _⟩ := k2
        obtain ⟨rfl, rfl⟩ := join_inj he
        exact ⟨hj.trans hj'.symm, fun hx => (by rw [show (nd m i).jn = true from hj] at hx; cases hx), fun _ => ⟨mk_one hc hu hu', mk_one hc hv hv'⟩⟩
      · exact (join_leaf k2).elim
    · rename_i hj
      split at k2
      · obtain ⟨u', v', _, _, he, _⟩ := k2
        rw [h2] at he
        exact (join_leaf he.symm).elim
      · rename_i hj'
        rw [h2] at k2
        have e1 : (nd m i).jn = false := Bool.eq_false_iff.2 hj
        have e2 : (nd m k).jn = false := Bool.eq_false_iff.2 hj'
        exact ⟨e1.trans e2.symm, fun _ => leaf_inj k2, fun hx => (by rw [e1] at hx; cases hx)⟩
theorem full_set {m : Mm} (hc : FullC m) {g : Nat} {t s : Tr} (h : mkT m 4 g t) (ht : t.may = true) (hs : s.may = true) (he : (setT 4 t).1 = (setT 4 s).1) : mkT m 4 g s :=
  linked_set (fun t => mkT m 4 g t) (fun t ht h x hx => next_in hc 4 ht h x hx (next_may ht x hx)) ht hs he h
theorem fullC_of {m : Mm} (hf : m.form = true) (h : ∀ j ∈ m.jobs0, Sat m m (fun g => g) j) : FullC m where
  turn := fun e he hj => by
    have hs : SatT m m (fun g => g) e := h ⟨false, e, 0⟩ ((job_iff hf).2 ⟨e, he, hj, .inl rfl⟩)
    exact HasN.congr hs ⟨rfl, fun _ => rfl, fun _ => ⟨rfl, rfl⟩⟩
  move := fun e f he hfl hj hfj hr => by
    have hs : SatM m m (fun g => g) e f := h ⟨true, e, f⟩ ((job_iff hf).2 ⟨e, he, hj, .inr ⟨f, hfl, hfj, hr, rfl⟩⟩)
    obtain ⟨r, hr', s1, s2⟩ := hs
    exact ⟨r, hr', s1.congr ⟨rfl, fun _ => rfl, fun _ => ⟨rfl, rfl⟩⟩, s2.congr ⟨rfl, fun _ => rfl, fun _ => ⟨rfl, rfl⟩⟩⟩
theorem sat_hom {m w : Mm} {φ : Nat → Nat} (hw : FullC w) (hf : m.form = true) (h : HomM m w φ) {j : Jb} (hj : j ∈ m.jobs0) : Sat m w φ j := by
  rw [job_iff hf] at hj
  obtain ⟨e, he, hjn, h1⟩ := hj
  obtain ⟨i, hi, ⟨s1, s2, s3⟩, s4⟩ := h.has e he
  have hji : (nd w i).jn = true := s1.trans hjn
  obtain ⟨e1, e2⟩ := s3 hji
  rcases h1 with rfl | ⟨f, hfl, hfj, hr, rfl⟩
  · show SatT m w φ e
    unfold SatT
    rw [← s4]
    exact (hw.turn i hi hji).congr ⟨rfl, fun h => (by cases h), fun _ => ⟨e2, e1⟩⟩
  · obtain ⟨k, hk, ⟨t1, t2, t3⟩, t4⟩ := h.has f hfl
    have hjk : (nd w k).jn = true := t1.trans hfj
    obtain ⟨f1, f2⟩ := t3 hjk
    have hre : ro w (gi w k) = ro w (nd w i).a.toNat := by
      rw [t4, e1]
      exact h.root _ _ (gi_lt hf hfl) (jn_lt hf he hjn).1 hr
    obtain ⟨r, hr', m1, m2⟩ := hw.move i k hi hk hji hjk hre
    show SatM m w φ e f
    refine ⟨r, hr', m1.congr ⟨rfl, fun h => (by cases h), fun _ => ⟨f2, e2⟩⟩, ?_⟩
    rw [← s4]
    exact m2.congr ⟨rfl, fun h => (by cases h), fun _ => ⟨f1, rfl⟩⟩
theorem full_true {m : Mm} (hm : m.may = true) (hN : m.N.length < 399) (hP : m.P.length < 399) (h : ∀ j ∈ m.jobs0, Sat m m (fun g => g) j) : m.full = true := by
  rw [full_def, hm, Bool.true_and, List.all_eq_true]
  intro j hj
  rw [jobs_def, if_pos hm] at hj
  rcases do_ok hm hj with ⟨_, h2⟩ | ⟨h1, h2⟩
  · omega
  · rw [h1, h2.stay (h j hj), same_self (form_P (may_f hm))]
    rfl
theorem put_new {m : Mm} (hm : m.may = true) {n : Nd} (hn : m.node n = true) {g : Int} (hg : g = -1 ∨ m.inG g = true) (hok : (m.put n g).2.2 = 0) :
    ((m.put n g).1.N.length = m.N.length ∧ (m.put n g).1.P.length = m.P.length) ∨
    ((∀ i, i < m.N.length → ¬ sameC m (nd m i) n) ∧ (m.put n g).1.N.length = m.N.length + 1 ∧ ((m.put n g).1.P.length = m.P.length ∨ ((m.put n g).1.P.length = m.P.length + 1 ∧ gi (m.put n g).1 m.N.length = m.P.length))) := by
  have hf := may_f hm
  have hGl := ((form_iff m).1 hf).2.1
  have hc : (!(m.may && m.node n && (decide (g = -1) || m.inG g))) = false := by
    rw [hm, hn]
    rcases hg with h | h
    · rw [h]; rfl
    · rw [h]; simp
  have hp := put_def m n g
  rw [hc] at hp
  simp only [Bool.false_eq_true, if_false] at hp
  generalize m.put n g = r at hp hok ⊢
  rcases look_has hm hn with ⟨q, hlk, _, _, _⟩ | ⟨hlk, hno⟩
  · rw [hlk] at hp
    simp only [if_true] at hp
    split at hp
    · rw [hp]; exact .inl ⟨rfl, rfl⟩
    · obtain ⟨k1, k2, k3⟩ := merge_keep m g (q : Int)
      rw [← hp] at k1 k2 k3
      exact .inl ⟨by rw [k1], k3⟩
  · rw [hlk] at hp
    simp only [Bool.false_eq_true, if_false] at hp
    right
    refine ⟨hno, ?_⟩
    split at hp
    · rw [hp] at hok; cases hok
    · split at hp
      · rw [hp]
        refine ⟨by simp, .inr ⟨by simp, ?_⟩⟩
        exact gi_last hGl
      · rw [hp]
        exact ⟨by simp, .inl rfl⟩
end
end Go.Sim.Try
namespace Go.Sim.Try
open Go Go.Sim
def W1 : Mm := ⟨[⟨false, 0, 0, 0⟩], [0], [0]⟩
def W2 : Mm := ⟨[⟨false, 0, 0, 0⟩, ⟨false, 1, 0, 0⟩, ndJ 0 1, ndJ 1 0], [0, 1, 2, 2], [0, 1, 2]⟩
def W3 : Mm := ⟨[⟨false, 0, 0, 0⟩, ⟨false, 1, 0, 0⟩, ⟨false, 2, 0, 0⟩, ndJ 0 1, ndJ 1 0, ndJ 0 3, ndJ 3 0, ndJ 1 3, ndJ 3 1, ndJ 0 5, ndJ 1 4, ndJ 2 3, ndJ 3 2, ndJ 4 1, ndJ 5 0], [0, 1, 3, 2, 2, 4, 4, 5, 5, 6, 6, 6, 6, 6, 6], [0, 1, 2, 3, 4, 5, 6]⟩
def W4 : Mm := ⟨[⟨false, 0, 0, 0⟩, ⟨false, 1, 0, 0⟩, ⟨false, 2, 0, 0⟩, ⟨false, 3, 0, 0⟩, ndJ 0 1, ndJ 1 0, ndJ 0 3, ndJ 3 0, ndJ 1 3, ndJ 3 1, ndJ 0 5, ndJ 1 4, ndJ 2 3, ndJ 3 2, ndJ 4 1, ndJ 5 0, ndJ 0 7, ndJ 7 0, ndJ 1 7, ndJ 7 1, ndJ 0 9, ndJ 1 8, ndJ 2 7, ndJ 7 2, ndJ 8 1, ndJ 9 0, ndJ 3 7, ndJ 7 3, ndJ 0 11, ndJ 3 8, ndJ 4 7, ndJ 7 4, ndJ 8 3, ndJ 11 0, ndJ 1 11, ndJ 3 9, ndJ 5 7, ndJ 7 5, ndJ 9 3, ndJ 11 1, ndJ 0 13, ndJ 1 12, ndJ 2 11, ndJ 3 10, ndJ 4 9, ndJ 5 8, ndJ 6 7, ndJ 7 6, ndJ 8 5, ndJ 9 4, ndJ 10 3, ndJ 11 2, ndJ 12 1, ndJ 13 0], [0, 1, 3, 7, 2, 2, 4, 4, 5, 5, 6, 6, 6, 6, 6, 6, 8, 8, 9, 9, 10, 10, 10, 10, 10, 10, 11, 11, 12, 12, 12, 12, 12, 12, 13, 13, 13, 13, 13, 13, 14, 14, 14, 14, 14, 14, 14, 14, 14, 14, 14, 14, 14, 14], [0, 1, 2, 3, 4, 5, 6, 7, 8, 9, 10, 11, 12, 13, 14]⟩
def sameB (m : Mm) (x y : Nd) : Bool := (x.jn == y.jn) && (x.jn || decide (x.occ = y.occ)) && (!x.jn || (decide (ro m x.a.toNat = ro m y.a.toNat) && decide (ro m x.b.toNat = ro m y.b.toNat)))
theorem sameB_iff {m : Mm} {x y : Nd} : sameB m x y = true ↔ sameC m x y := by
  unfold sameB sameC
  cases hx : x.jn <;> cases hy : y.jn <;> simp
def hasB (m : Mm) (n : Nd) (r : Nat) : Bool := (List.range m.N.length).any fun i => sameB m (nd m i) n && decide (ro m (gi m i) = r)
theorem hasB_ok {m : Mm} {n : Nd} {r : Nat} (h : hasB m n r = true) : HasN m n r := by
  unfold hasB at h
  rw [List.any_eq_true] at h
  obtain ⟨i, hi, h⟩ := h
  rw [Bool.and_eq_true, decide_eq_true_eq, sameB_iff] at h
  exact ⟨i, List.mem_range.1 hi, h.1, h.2⟩
def fullB (w : Mm) : Bool := (List.range w.N.length).all fun e => !(nd w e).jn || (hasB w (ndJ (nd w e).b (nd w e).a) (ro w (gi w e)) &&
  (List.range w.N.length).all fun f => !(nd w f).jn || !decide (ro w (gi w f) = ro w (nd w e).a.toNat) ||
    (List.range w.P.length).any fun r => hasB w (ndJ (nd w f).b (nd w e).b) (ro w r) && hasB w (ndJ (nd w f).a (r : Nat)) (ro w (gi w e)))
theorem fullB_ok {w : Mm} (h : fullB w = true) : FullC w := by
  unfold fullB at h
  rw [List.all_eq_true] at h
  refine ⟨fun e he hj => ?_, fun e f he hf hj hfj hr => ?_⟩
  · have := h e (List.mem_range.2 he)
    rw [hj] at this
    simp only [Bool.not_true, Bool.false_or, Bool.and_eq_true] at this
    exact hasB_ok this.1
  · have := h e (List.mem_range.2 he)
    rw [hj] at this
    simp only [Bool.not_true, Bool.false_or, Bool.and_eq_true, List.all_eq_true] at this
    have := this.2 f (List.mem_range.2 hf)
    rw [hfj, decide_eq_true hr] at this
    simp only [Bool.not_true, Bool.false_or, List.any_eq_true, Bool.and_eq_true] at this
    obtain ⟨r, hr, h1, h2⟩ := this
    exact ⟨r, List.mem_range.1 hr, hasB_ok h1, hasB_ok h2⟩
def nodesB (w : Mm) : Bool := (List.range w.N.length).all fun i => if (nd w i).jn then
    decide (ro w (nd w i).a.toNat + ro w (nd w i).b.toNat + 1 = ro w (gi w i)) && decide (band .i64 ((ro w (nd w i).a.toNat : Nat) + 1) ((ro w (nd w i).b.toNat : Nat) + 1) = 0)
  else decide ((setT 4 (.leaf (nd w i).occ)).1 = (ro w (gi w i) : Nat) + 1)
theorem nodes_join {w : Mm} (h : nodesB w = true) {i : Nat} (hi : i < w.N.length) (hj : (nd w i).jn = true) : ro w (nd w i).a.toNat + ro w (nd w i).b.toNat + 1 = ro w (gi w i) ∧ band .i64 ((ro w (nd w i).a.toNat : Nat) + 1) ((ro w (nd w i).b.toNat : Nat) + 1) = 0 := by
  unfold nodesB at h
  have := List.all_eq_true.1 h i (List.mem_range.2 hi)
  rw [if_pos hj] at this
  simpa using this
theorem nodes_leaf {w : Mm} (h : nodesB w = true) {i : Nat} (hi : i < w.N.length) (hj : (nd w i).jn = false) : (setT 4 (.leaf (nd w i).occ)).1 = (ro w (gi w i) : Nat) + 1 := by
  unfold nodesB at h
  have := List.all_eq_true.1 h i (List.mem_range.2 hi)
  rw [if_neg (by rw [hj]; decide)] at this
  simpa using this
theorem set_made {w : Mm} (h : nodesB w = true) : ∀ {d g : Nat} {t : Tr}, mkT w d g t → (setT 4 t).1 = (g : Nat) + 1
  | 0, _, _, hk => hk.elim
  | d + 1, g, t, ⟨i, hi, h1, h2⟩ => by
    have e : rgM w i = ro w (gi w i) := rfl
    rw [e] at h1
    unfold stepM at h2
    split at h2
    · rename_i hj
      obtain ⟨u, v, hu, hv, rfl, hm⟩ := h2
      obtain ⟨_, _, _, hs, _⟩ := may_parts hm
      have k1 := set_made h hu
      have k2 := set_made h hv
      have k3 := (nodes_join h hi hj).1
      have ea : raM w i = ro w (nd w i).a.toNat := rfl
      have eb : rbM w i = ro w (nd w i).b.toNat := rfl
      rw [ea] at k1
      rw [eb] at k2
      rw [hs, k1, k2, ← h1, ← k3]
      push_cast
      omega
    · rename_i hj
      rw [h2, ← h1]
      exact nodes_leaf h hi (Bool.eq_false_iff.2 hj)
def onceB (w : Mm) : Bool := (List.range w.N.length).all fun i => (List.range i).all fun k => !sameB w (nd w i) (nd w k)
def rootsB (w : Mm) : Bool := (List.range w.P.length).all fun g => decide (ro w g = g)
theorem roots_ok {w : Mm} (h : rootsB w = true) {g : Nat} (hg : g < w.P.length) : ro w g = g := by
  unfold rootsB at h
  have := List.all_eq_true.1 h g (List.mem_range.2 hg)
  simpa using this
structure IsW (n : Nat) (w : Mm) : Prop where
  may : w.may = true
  full : FullC w
  nodes : nodesB w = true
  once : onceB w = true
  root : rootsB w = true
  plen : w.P.length + 1 = 2 ^ n
theorem W1_is : IsW 1 W1 := ⟨by decide +kernel, fullB_ok (by decide +kernel), by decide +kernel, by decide +kernel, by decide +kernel, by decide +kernel⟩
theorem W2_is : IsW 2 W2 := ⟨by decide +kernel, fullB_ok (by decide +kernel), by decide +kernel, by decide +kernel, by decide +kernel, by decide +kernel⟩
theorem W3_is : IsW 3 W3 := ⟨by decide +kernel, fullB_ok (by decide +kernel), by decide +kernel, by decide +kernel, by decide +kernel, by decide +kernel⟩
theorem W4_may : W4.may = true := by decide +kernel
theorem W4_full : fullB W4 = true := by decide +kernel
theorem W4_is : IsW 4 W4 := ⟨W4_may, fullB_ok W4_full, by decide +kernel, by decide +kernel, by decide +kernel, by decide +kernel⟩
end Go.Sim.Try
namespace Go.Sim.Try
open Go Go.Sim
section
structure Good (w : Mm) (φ : Nat → Nat) (m : Mm) : Prop where
  may : m.may = true
  hom : HomM m w φ
  ne : ∀ g, g < m.P.length → ∃ i, i < m.N.length ∧ ro m (gi m i) = ro m g
  pn : m.P.length ≤ m.N.length
  few : ∃ L : List Tr, L.Nodup ∧ L.length = m.N.length ∧ ∀ t ∈ L, ∃ g, g < m.P.length ∧ mkT m 4 (ro m g) t
theorem Good.short {w m : Mm} {φ : Nat → Nat} (h : Good w φ m) : m.N.length ≤ 184 ∧ m.P.length ≤ 184 := by
  obtain ⟨L, h1, h2, h3⟩ := h.few
  have h4 := nodup_sub h1 (m := allTs) fun t ht => by
    obtain ⟨g, _, hk⟩ := h3 t ht
    exact mem_allTs (mkT_may (may_f h.may) hk)
  rw [allTs_len] at h4
  have := h.pn
  omega
theorem Good.set {n : Nat} {w m : Mm} {φ : Nat → Nat} (hw : IsW n w) (h : Good w φ m) {d g : Nat} {t : Tr} (hg : g < m.P.length) (ht : mkT m d (ro m g) t) : (setT 4 t).1 = (φ g : Nat) + 1 := by
  have := set_made hw.nodes (h.hom.made (may_f h.may) hg ht)
  rwa [roots_ok hw.root (h.hom.lt g hg)] at this
theorem hom_parts {n : Nat} {w m : Mm} {φ : Nat → Nat} (hw : IsW n w) (h : HomM m w φ) {nn : Nd} {r : Nat} (ha : nn.a.toNat < m.P.length) (hb : nn.b.toNat < m.P.length) (hj : nn.jn = true) (hh : HasN w (mapN φ nn) r) : φ nn.a.toNat + φ nn.b.toNat + 1 = r ∧ band .i64 ((φ nn.a.toNat : Nat) + 1) ((φ nn.b.toNat : Nat) + 1) = 0 := by
  obtain ⟨q, hq, ⟨s1, _, s3⟩, s4⟩ := hh
  have hjq : (nd w q).jn = true := s1.trans hj
  obtain ⟨e1, e2⟩ := s3 hjq
  obtain ⟨n1, n2⟩ := nodes_join hw.nodes hq hjq
  have r1 : ro w (mapN φ nn).a.toNat = φ nn.a.toNat := roots_ok hw.root (h.lt _ ha)
  have r2 : ro w (mapN φ nn).b.toNat = φ nn.b.toNat := roots_ok hw.root (h.lt _ hb)
  rw [e1, r1, e2, r2] at n1 n2
  rw [s4] at n1
  exact ⟨n1, n2⟩
theorem Good.tree {n : Nat} {w m : Mm} {φ : Nat → Nat} (hw : IsW n w) (h : Good w φ m) : ∀ (k g : Nat), φ g < k → g < m.P.length → ∃ t, mkT m 4 (ro m g) t
  | 0, _, hk, _ => by omega
  | k + 1, g, hk, hg => by
    obtain ⟨i, hi, hr⟩ := h.ne g hg
    have hf := may_f h.may
    have hge := gi_lt hf hi
    have r3 : ro w (φ (gi m i)) = φ (gi m i) := roots_ok hw.root (h.hom.lt _ hge)
    have r4 : φ (gi m i) = φ g := by rw [← r3, h.hom.root _ _ hge hg hr, roots_ok hw.root (h.hom.lt _ hg)]
    rw [← hr]
    cases hj : (nd m i).jn with
    | false =>
      refine ⟨.leaf (nd m i).occ, i, hi, rfl, ?_⟩
      unfold stepM
      rw [if_neg (show ¬ (m.N.getD i nd0).jn = true by rw [show (m.N.getD i nd0).jn = false from hj]; decide)]
    | true =>
      obtain ⟨ha, hb⟩ := jn_lt hf hi hj
      obtain ⟨n1, n2⟩ := hom_parts hw h.hom ha hb hj (h.hom.has i hi)
      rw [r3, r4] at n1
      obtain ⟨u, hu⟩ := h.tree hw k (nd m i).a.toNat (by omega) ha
      obtain ⟨v, hv⟩ := h.tree hw k (nd m i).b.toNat (by omega) hb
      have su := h.set hw ha hu
      have sv := h.set hw hb hv
      have hm := (may_join (mkT_may hf hu) (mkT_may hf hv) (by rw [su, sv]; exact n2)).1
      exact ⟨_, join_in hj (self_has hi) hu hv hm⟩
theorem put_good {n : Nat} {w m : Mm} {φ : Nat → Nat} (hw : IsW n w) (h : Good w φ m) {nn : Nd} (hn : m.node nn = true) (hj : nn.jn = true) {g : Int} (hg : g = -1 ∨ m.inG g = true) {r : Nat} (hr : r < w.P.length) (hh : HasN w (mapN φ nn) (ro w r)) (hgr : g ≠ -1 → ro w r = ro w (φ g.toNat)) :
    ∃ (k : Nat) (φ' : Nat → Nat), (m.put nn g).2 = ((k : Int), 0) ∧ PutOk m nn g (m.put nn g).1 k ∧ (∀ a, a < m.P.length → φ' a = φ a) ∧ ro w (φ' k) = ro w r ∧ Good w φ' (m.put nn g).1 := by
  have hf := may_f h.may
  have hc := ((may_iff m).1 h.may).2
  obtain ⟨hN, hP⟩ := h.short
  rcases put_spec h.may hn hg with ⟨_, _, h3, _⟩ | ⟨k, k1, k2, _⟩
  · omega
  obtain ⟨φ', p1, p2, p3⟩ := k2.least w φ r ((may_iff w).1 hw.may).2 h.hom hr hh hgr
  have hnew := put_new h.may hn hg (by rw [k1])
  refine ⟨k, φ', k1, k2, p1, p3, ?_⟩
  clear k1
  generalize (m.put nn g).1 = x at k2 hnew p2 ⊢
  refine ⟨k2.may, p2, fun a ha => ?_, by have := k2.pn; have := h.pn; omega, ?_⟩
  · have old : a < m.P.length → ∃ i, i < x.N.length ∧ ro x (gi x i) = ro x a := fun ha => by
      obtain ⟨i, hi, hr⟩ := h.ne a ha
      exact ⟨i, Nat.lt_of_lt_of_le hi k2.ext.nlen, by rw [k2.ext.grp i hi]; exact k2.ext.eqv (gi_lt hf hi) ha hr⟩
    rcases hnew with ⟨_, hp⟩ | ⟨_, h1, hp | ⟨hp, hl⟩⟩
    · exact old (by omega)
    · exact old (by omega)
    · by_cases hlt : a < m.P.length
      · exact old hlt
      · exact ⟨m.N.length, by omega, by rw [hl, show a = m.P.length by omega]⟩
  · obtain ⟨L, l1, l2, l3⟩ := h.few
    have hup : ∀ t ∈ L, ∃ a, a < x.P.length ∧ mkT x 4 (ro x a) t := fun t ht => by
      obtain ⟨a, ha, ht⟩ := l3 t ht
      exact ⟨a, Nat.lt_of_lt_of_le ha k2.ext.plen, k2.ext.made hf ha ht⟩
    rcases hnew with ⟨hnl, _⟩ | ⟨hno, hnl, _⟩
    · exact ⟨L, l1, by omega, hup⟩
    · obtain ⟨_, ha, hb⟩ := node_join hn hj
      have ha' : nn.a.toNat < m.P.length := by omega
      have hb' : nn.b.toNat < m.P.length := by omega
      obtain ⟨u, hu⟩ := h.tree hw _ nn.a.toNat (Nat.lt_succ_self _) ha'
      obtain ⟨v, hv⟩ := h.tree hw _ nn.b.toNat (Nat.lt_succ_self _) hb'
      have su := h.set hw ha' hu
      have sv := h.set hw hb' hv
      obtain ⟨n1, n2⟩ := hom_parts hw h.hom ha' hb' hj hh
      have hm := (may_join (mkT_may hf hu) (mkT_may hf hv) (by rw [su, sv]; exact n2)).1
      refine ⟨L ++ [.join u v], ?_, by simp [l2, hnl], fun t ht => ?_⟩
      · rw [List.nodup_append]
        refine ⟨l1, by simp, fun s hs t ht he => ?_⟩
        obtain rfl := List.mem_singleton.1 ht
        subst he
        obtain ⟨a, ha, hk⟩ := l3 _ hs
        obtain ⟨i, hi, hji, _, hu', hv', _⟩ := join_out hk
        exact hno i hi ⟨hji.trans hj.symm, fun hx => (by rw [hji] at hx; cases hx), fun _ => ⟨mk_one hc hu' hu, mk_one hc hv' hv⟩⟩
      · rcases List.mem_append.1 ht with ht | ht
        · exact hup t ht
        · obtain rfl := List.mem_singleton.1 ht
          refine ⟨k, k2.lt, ?_⟩
          rw [k2.self]
          exact join_in hj k2.has (k2.ext.made hf ha' hu) (k2.ext.made hf hb' hv) hm
theorem do_good {n : Nat} {w m : Mm} {φ : Nat → Nat} (hw : IsW n w) (h : Good w φ m) {j : Jb} (hj : j ∈ m.jobs0) : (m.do0 j).2 = 0 ∧ DoOk m j (m.do0 j).1 ∧ ∃ φ' : Nat → Nat, (∀ a, a < m.P.length → φ' a = φ a) ∧ Good w φ' (m.do0 j).1 := by
  have hf := may_f h.may
  obtain ⟨hN, hP⟩ := h.short
  have hok : (m.do0 j).2 = 0 ∧ DoOk m j (m.do0 j).1 := by
    rcases do_ok h.may hj with ⟨_, h2⟩ | h2
    · omega
    · exact h2
  refine ⟨hok.1, hok.2, ?_⟩
  have hs := sat_hom hw.full hf h.hom hj
  obtain ⟨e, he, hjn, h1⟩ := (job_iff hf).1 hj
  obtain ⟨hG, hGi, hG1⟩ := G_in hf he
  obtain ⟨_, ha, hb⟩ := node_join (form_N hf he) hjn
  have hge := gi_lt hf he
  have hgt : (m.G.getD e 0).toNat = gi m e := rfl
  rcases h1 with rfl | ⟨f, hfl, hfj, hr, rfl⟩
  · have hs' : SatT m w φ e := hs
    obtain ⟨k, φ', k1, k2, k3, k4, k5⟩ := put_good hw h (nn := turnN m e) (nodeJ hb ha) rfl (.inr hGi) (h.hom.lt _ hge) hs' (fun _ => by rw [hgt])
    have hd : (m.do0 ⟨false, e, 0⟩).1 = (m.put (turnN m e) (m.G.getD e 0)).1 := by
      rw [do0_def, if_neg Bool.false_ne_true]; rfl
    rw [hd]
    exact ⟨φ', k3, k5⟩
  · obtain ⟨r, hr', s1, s2⟩ := (show SatM m w φ e f from hs)
    obtain ⟨_, fa, fb⟩ := node_join (form_N hf hfl) hfj
    obtain ⟨k, φ1, k1, k2, k3, k4, k5⟩ := put_good hw h (nn := moveN m e f) (nodeJ fb hb) rfl (.inl rfl) hr' s1 (fun hx => absurd rfl hx)
    have hd2 : m.do2 ⟨true, e, f⟩ = m.put (moveN m e f) (-1) := rfl
    have hd3 : m.do3 ⟨true, e, f⟩ = (m.do2 ⟨true, e, f⟩).1.put (ndJ (nd m f).a (m.do2 ⟨true, e, f⟩).2.1) (m.G.getD e 0) := rfl
    have hyp := k2.ext.plen
    have hny : (m.put (moveN m e f) (-1)).1.node (ndJ (nd m f).a (k : Int)) = true := nodeJ ⟨fa.1, by have := fa.2; show (m.N.getD f nd0).a < _; omega⟩ ⟨by omega, by have := k2.lt; omega⟩
    have hGy : (m.put (moveN m e f) (-1)).1.inG (m.G.getD e 0) = true := by
      rw [inG_cut, Bool.and_eq_true, decide_eq_true_eq, decide_eq_true_eq]
      omega
    have ef : φ1 (nd m f).a.toNat = φ (nd m f).a.toNat := k3 _ (by show (m.N.getD f nd0).a.toNat < _; omega)
    have ee : φ1 (gi m e) = φ (gi m e) := k3 _ hge
    obtain ⟨l, φ2, l1, l2, l3, l4, l5⟩ := put_good hw k5 (nn := ndJ (nd m f).a (k : Int)) hny rfl (.inr hGy) (h.hom.lt _ hge) (s2.congr ⟨rfl, fun _ => rfl, fun _ => ⟨by show ro w _ = ro w (φ1 (nd m f).a.toNat); rw [ef]; exact congrArg (ro w) (Int.toNat_natCast _), k4.symm⟩⟩) (fun _ => by rw [hgt, ee])
    have hd : (m.do0 ⟨true, e, f⟩).1 = ((m.put (moveN m e f) (-1)).1.put (ndJ (nd m f).a (k : Int)) (m.G.getD e 0)).1 := by
      rw [do0_def, if_pos rfl, hd3, hd2, k1, if_pos rfl]
      dsimp only
      rw [l1, if_pos rfl]
    rw [hd]
    exact ⟨φ2, fun a ha => (l3 a (Nat.lt_of_lt_of_le ha hyp)).trans (k3 a ha), l5⟩
theorem next_none {m : Mm} {done : List Jb} {picks : List Int} (h : (nextJ m done picks).2.1 = false) : leftJ m done = [] := by
  unfold nextJ at h
  split at h
  · assumption
  · cases h
theorem run_good {n : Nat} {w : Mm} (hw : IsW n w) : ∀ (f : Nat) (m : Mm) (done : List Jb) (picks : List Int) (φ : Nat → Nat), Good w φ m → done.Nodup → (∀ j ∈ done, okJob j ∧ j ∈ m.jobs0 ∧ Sat m m (fun g => g) j) → 320001 ≤ f + done.length →
    (runF f m done picks).2.2 = 0 ∧ m.P.length ≤ (runF f m done picks).1.P.length ∧ (∀ j ∈ (runF f m done picks).1.jobs0, Sat (runF f m done picks).1 (runF f m done picks).1 (fun g => g) j) ∧ ∃ φ' : Nat → Nat, (∀ a, a < m.P.length → φ' a = φ a) ∧ Good w φ' (runF f m done picks).1
  | 0, m, done, picks, φ, h, hn, hd, hf => by
    have := done_few hn fun j hj => (hd j hj).1
    omega
  | f + 1, m, done, picks, φ, h, hn, hd, hfu => by
    have hf := may_f h.may
    rw [runF]
    cases hb : (nextJ m done picks).2.1 with
    | false =>
      rw [if_neg Bool.false_ne_true]
      have hl := next_none hb
      refine ⟨rfl, Nat.le_refl _, fun j hj => ?_, φ, fun _ _ => rfl, h⟩
      by_cases hm : j ∈ done
      · exact (hd j hm).2.2
      · have := mem_left.2 ⟨hj, hm⟩
        rw [hl] at this
        cases this
    | true =>
      rw [if_pos rfl]
      obtain ⟨hj, hjd⟩ := mem_left.1 (next_left hb)
      generalize (nextJ m done picks).1 = j at hj hjd
      generalize (nextJ m done picks).2.2 = pk
      obtain ⟨k1, k2, φ1, k3, k4⟩ := do_good hw h hj
      rw [if_pos k1]
      have hpl := job_places hj
      have hsh := h.short
      have hxf := may_f k4.may
      have hok : okJob j := ⟨hpl.1, by omega, hpl.2.2.1, by omega⟩
      have hnew : ∀ i, i ∈ m.jobs0 → (Sat m m (fun g => g) i ∨ i = j) → i ∈ (m.do0 j).1.jobs0 ∧ Sat (m.do0 j).1 (m.do0 j).1 (fun g => g) i := fun i hi hs => by
        refine ⟨job_kept hf hxf k2.ext hi, ?_⟩
        refine (Sat.from_ hf k2.ext (fun _ _ => rfl) hi).1 ?_
        rcases hs with hs | rfl
        · exact Sat.ext hf hf (ExtM.refl hf) k2.ext hi hs
        · exact k2.sat
      have c1 : (done ++ [j]).Nodup := by
        rw [List.nodup_append]
        exact ⟨hn, by simp, fun x hx y hy => by obtain rfl := List.mem_singleton.1 hy; exact fun e => hjd (e ▸ hx)⟩
      have c2 : ∀ i ∈ done ++ [j], okJob i ∧ i ∈ (m.do0 j).1.jobs0 ∧ Sat (m.do0 j).1 (m.do0 j).1 (fun g => g) i := fun i hi => by
        rcases List.mem_append.1 hi with hi | hi
        · obtain ⟨d1, d2, d3⟩ := hd i hi
          exact ⟨d1, hnew i d2 (.inl d3)⟩
        · obtain rfl := List.mem_singleton.1 hi
          exact ⟨hok, hnew _ hj (.inr rfl)⟩
      have c3 : 320001 ≤ f + (done ++ [j]).length := by
        rw [List.length_append, List.length_cons, List.length_nil]
        omega
      obtain ⟨r1, r2, r3, φ2, r4, r5⟩ := run_good hw f (m.do0 j).1 (done ++ [j]) pk φ1 k4 c1 c2 c3
      have hp := k2.ext.plen
      exact ⟨r1, Nat.le_trans hp r2, r3, φ2, fun a ha => (r4 a (Nat.lt_of_lt_of_le ha hp)).trans (k3 a ha), r5⟩
end
section
def homB (m w : Mm) (f : Nat → Nat) : Bool := (List.range m.P.length).all (fun g => decide (f g < w.P.length) && (List.range m.P.length).all fun g' => !decide (ro m g = ro m g') || decide (ro w (f g) = ro w (f g'))) &&
  (List.range m.N.length).all fun i => hasB w (mapN f (nd m i)) (ro w (f (gi m i)))
theorem homB_ok {m w : Mm} {f : Nat → Nat} (h : homB m w f = true) : HomM m w f := by
  unfold homB at h
  rw [Bool.and_eq_true, List.all_eq_true, List.all_eq_true] at h
  obtain ⟨h1, h2⟩ := h
  refine ⟨fun g hg => ?_, fun g g' hg hg' hr => ?_, fun i hi => hasB_ok (h2 i (List.mem_range.2 hi))⟩
  · have := h1 g (List.mem_range.2 hg)
    rw [Bool.and_eq_true, decide_eq_true_eq] at this
    exact this.1
  · have := h1 g (List.mem_range.2 hg)
    rw [Bool.and_eq_true, List.all_eq_true] at this
    have := this.2 g' (List.mem_range.2 hg')
    rw [decide_eq_true hr] at this
    simpa using this
def goodB (m : Mm) (L : List Tr) : Bool := (List.range m.P.length).all (fun g => (List.range m.N.length).any fun i => decide (ro m (gi m i) = ro m g)) && decide (m.P.length ≤ m.N.length) && decide ((L.map (cdT 4)).Nodup) && decide (L.length = m.N.length) &&
  L.all fun t => (List.range m.P.length).any fun g => mkB m 4 (ro m g) t
theorem goodB_ok {m w : Mm} {f : Nat → Nat} {L : List Tr} (hm : m.may = true) (h1 : homB m w f = true) (h2 : goodB m L = true) : Good w f m := by
  unfold goodB at h2
  simp only [Bool.and_eq_true, List.all_eq_true, decide_eq_true_eq, List.any_eq_true, List.mem_range] at h2
  obtain ⟨⟨⟨⟨k1, k2⟩, k3⟩, k4⟩, k5⟩ := h2
  refine ⟨hm, homB_ok h1, k1, k2, L, ?_, k4, fun t ht => ?_⟩
  · exact (List.pairwise_map.1 k3).imp fun h e => h (congrArg _ e)
  · obtain ⟨g, hg, hk⟩ := k5 t ht
    exact ⟨g, hg, (mkB_iff m _ _ _).1 hk⟩
def W0 : Nat → Mm
  | 1 => W1
  | 2 => W2
  | 3 => W3
  | _ => W4
def f0 (n : Nat) (g : Nat) : Nat := if g < n then 2 ^ g - 1 else 2 ^ (g - n + 2) - 2
def firstT : Nat → Tr
  | 0 => .leaf 0
  | k + 1 => .join (firstT k) (.leaf ((k + 1 : Nat) : Int))
def L0 (n : Nat) : List Tr := ((List.range n).map fun k => .leaf ((k : Nat) : Int)) ++ (List.range (n - 1)).map fun k => firstT (k + 1)
def g0 (n : Nat) : Nat := if n = 1 then 0 else 2 * n - 2
theorem W0_is : ∀ n, 1 ≤ n → n ≤ 4 → IsW n (W0 n)
  | 1, _, _ => W1_is
  | 2, _, _ => W2_is
  | 3, _, _ => W3_is
  | 4, _, _ => W4_is
  | 0, h, _ => by omega
  | n + 5, _, h => by omega
theorem st_good : ∀ n, 1 ≤ n → n ≤ 4 → Good (W0 n) (f0 n) (stM n (n - 1)) ∧ g0 n < (stM n (n - 1)).P.length ∧ f0 n (g0 n) + 2 = 2 ^ n ∧ lastM n (n - 1) = (g0 n : Nat)
  | 1, _, _ => ⟨goodB_ok (L := L0 1) (by decide +kernel) (by decide +kernel) (by decide +kernel), by decide +kernel, by decide +kernel, by decide +kernel⟩
  | 2, _, _ => ⟨goodB_ok (L := L0 2) (by decide +kernel) (by decide +kernel) (by decide +kernel), by decide +kernel, by decide +kernel, by decide +kernel⟩
  | 3, _, _ => ⟨goodB_ok (L := L0 3) (by decide +kernel) (by decide +kernel) (by decide +kernel), by decide +kernel, by decide +kernel, by decide +kernel⟩
  | 4, _, _ => ⟨goodB_ok (L := L0 4) (by decide +kernel) (by decide +kernel) (by decide +kernel), by decide +kernel, by decide +kernel, by decide +kernel⟩
  | 0, h, _ => by omega
  | n + 5, _, h => by omega
structure Ran (n : Nat) (x : Mm) (φ : Nat → Nat) : Prop where
  good : Good (W0 n) φ x
  full : FullC x
  fullT : x.full = true
  g0lt : g0 n < x.P.length
  g0is : φ (g0 n) + 2 = 2 ^ n
theorem ran (n : Nat) (h1 : 1 ≤ n) (h4 : n ≤ 4) (picks : List Int) : ((stM n (n - 1)).run picks).2.2 = 0 ∧ ∃ φ, Ran n ((stM n (n - 1)).run picks).1 φ := by
  obtain ⟨k1, k2, k3, _⟩ := st_good n h1 h4
  have hr := run_good (W0_is n h1 h4) 320001 (stM n (n - 1)) [] picks (f0 n) k1 List.nodup_nil (fun j hj => by cases hj) (by simp)
  rw [run_cut, if_pos k1.may]
  obtain ⟨r1, r2, r3, φ, r4, r5⟩ := hr
  refine ⟨r1, φ, r5, fullC_of (may_f r5.may) r3, full_true r5.may (by have := r5.short; omega) (by have := r5.short; omega) r3, Nat.lt_of_lt_of_le k2 r2, by rw [r4 _ k2]; exact k3⟩
theorem Ran.all {n : Nat} (hn : 1 ≤ n ∧ n ≤ 4) {x : Mm} {φ : Nat → Nat} (h : Ran n x φ) {g : Nat} (hg : g < x.P.length) {t : Tr} : mkT x 4 (ro x g) t ↔ t ∈ allT 4 ((φ g : Nat) + 1) := by
  have hf := may_f h.good.may
  have hw := W0_is n hn.1 hn.2
  rw [allT_mem]
  constructor
  · intro hk
    exact ⟨mkT_may hf hk, h.good.set hw hg hk⟩
  · rintro ⟨hm, hs⟩
    obtain ⟨u, hu⟩ := h.good.tree hw _ g (Nat.lt_succ_self _) hg
    exact full_set h.full hu (mkT_may hf hu) hm ((h.good.set hw hg hu).trans hs.symm)
theorem treesM_nodup (m : Mm) (g : Int) : (treesM m g).Nodup := by
  unfold treesM
  split
  · exact (List.mergeSort_perm _ _).nodup_iff.2 (allTs_nodup.filter _)
  · exact List.nodup_nil
theorem allT_nodup' : ∀ a : Fin 16, ((allT 4 (a.val : Int)).map (cdT 4)).Nodup := by decide +kernel
theorem allT_nodup {s : Nat} (h : s < 16) : (allT 4 (s : Int)).Nodup :=
  (List.pairwise_map.1 (allT_nodup' ⟨s, h⟩)).imp fun h e => h (congrArg _ e)
theorem Ran.trees {n : Nat} (hn : 1 ≤ n ∧ n ≤ 4) {x : Mm} {φ : Nat → Nat} (h : Ran n x φ) : (treesM x (g0 n : Nat)).length = (allT 4 ((2 ^ n - 1 : Nat) : Int)).length ∧ ∀ t ∈ allT 4 ((2 ^ n - 1 : Nat) : Int), t ∈ treesM x (g0 n : Nat) := by
  have hp : 2 ^ n - 1 < 16 := by
    have : 2 ^ n ≤ 2 ^ 4 := Nat.pow_le_pow_right (by omega) hn.2
    omega
  have e : ((φ (g0 n) : Nat) : Int) + 1 = ((2 ^ n - 1 : Nat) : Int) := by
    have := h.g0is
    omega
  have hiff : ∀ t, t ∈ treesM x (g0 n : Nat) ↔ t ∈ allT 4 ((2 ^ n - 1 : Nat) : Int) := fun t => by
    have ha := h.all hn h.g0lt (t := t)
    rw [e] at ha
    rw [treesM_mem, ← ha, Int.toNat_natCast]
    exact ⟨fun hh => hh.2.2, fun hh => ⟨⟨h.good.may, by omega, by have := h.g0lt; omega⟩, mkT_may (may_f h.good.may) hh, hh⟩⟩
  refine ⟨?_, fun t ht => (hiff t).2 ht⟩
  exact ((List.perm_ext_iff_of_nodup (treesM_nodup _ _) (allT_nodup hp)).2 hiff).length_eq
end
attribute [local push_cast] aops_cons aops_nil aopG_none aopG_some aopP_eq aopE_eq aopC_eq aopE?_eq aopC?_eq aopB_eq aopB?_eq aopN_eq aopN?_eq anxt anext amrange alast amapNil abr anilq gopP_eq gopL_eq ahead_cons ahead_nil ahdG_none ahdG_some ahdP_eq ahdN_eq ahdC_eq ahdN?_eq ahdS_eq ahdS?_eq astoreN ahdC?_eq ghdP_eq ghdC_eq ghdC?_eq ghdZ_f ghdZ_t ahdI_eq ahdI?_eq ghdN?_eq aim_nil aim_cons isIn_nil isIn_none isIn_cons aimm aheP_eq aheA_eq aheC_eq aheC?_eq aheI?_eq aheA?_eq gheP_eq gheC_eq gheC?_eq gheZ_eq aheG_none aheG_some aheff_cons aheff_nil aapp gro_rsl gro_lit gro_esl opt_some opt_none no_eq acondT_true acondT_false acondT_lit abytes bytesU aw_skip aw_region aw_regionD aw_seq aw_cond aw_block aw_loop aw_exit aw_label aw_ret thn_normal thn_exit thn_ret inb_normal inb_exit inb_ret qret_ret qret_normal gcond apure aeff anew acallee ares aresT aresL aresC ares1 qfin_eq ev ofV evL gokL tget tput_some tput_none initT abin aint aun aload afaddr aiaddr afield aindex aextract apick pickv_lit Bool.or_false Bool.false_or Bool.or_true Bool.true_or imp_self aslice chunk roomB abound aconv abuild afill splice alen aminmax abuiltin anil apart Value.oneCell' astore aappend srcEs abuildSlice amakeSlice amapPut aclear aentry aestore alookup aput afind mget keyV sameV_int Option.isSome_some Option.isSome_none cond_true cond_false asets isEq plus_obj plus_nxt plus_add plus_set plus_del IntKind.bits Option.map_some Option.map_none Option.bind_some Option.bind_none Option.join_some Option.getD_some Option.getD_none Option.toList List.getElem?_toArray List.getElem?_cons_zero List.getElem?_cons_succ List.getElem?_nil List.length_cons List.length_nil List.length_map List.head?_cons List.cons_append List.nil_append List.append_nil List.map_cons List.map_nil List.getD_cons_zero List.getD_cons_succ List.replicate_succ List.replicate_zero List.set_cons_zero List.set_cons_succ List.take_succ_cons List.take_zero List.drop_succ_cons List.drop_zero List.all_cons List.all_nil Nat.zero_add if_true if_false true_and and_true false_and and_false true_implies implies_true forall_const Bool.and_true Bool.true_and Bool.false_and Bool.and_false Bool.true_beq Bool.false_beq Bool.not_not beq_tt beq_ff Int.toNat_natCast decide_true decide_false Bool.not_true Bool.not_false Bool.true_eq_false Bool.false_eq_true false_implies exists_prop eq_self bne_self_eq_false beq_self_eq_true decide_eq_true_eq decide_eq_false_iff_not Bool.not_eq_true' Bool.not_eq_false' AV.int AV.bool AV.nilS ne_eq not_false_eq_true not_true_eq_false exists_eq_left exists_eq_left' Nat.lt_irrefl core_lit grd_lit acells_lit one_lit core_agg grd_agg acells_agg one_agg core_tup grd_tup acells_tup one_tup core_sl grd_sl acells_sl one_sl core_esl grd_esl acells_esl one_esl core_rsl grd_rsl acells_rsl one_rsl core_ptr grd_ptr acells_ptr one_ptr core_iptr grd_iptr acells_iptr one_iptr core_clo grd_clo acells_clo one_clo core_mp grd_mp acells_mp one_mp core_any grd_any acells_any one_any core_gv grd_gv fit_agg fit_lit fit_sl fit_esl fit_rsl fit_ptr fit_iptr fit_clo fit_mp retq_ret retq_normal set_nxt set_set plus_obj_set plus_set_set app_get0 app_get app_set0 app_set List.append_assoc List.length_append List.length_set Nat.lt_add_one Nat.add_lt_add_iff_right Nat.lt_add_right_iff_pos Nat.add_lt_add_iff_left List.mem_cons List.not_mem_nil or_false forall_eq forall_eq_or_imp lt_s0 lt_s1 lt_s2 lt_s3 lt_s4 lt_s5 lt_s6 lt_s7 lt_s8 pickv_t pickv_f or_nand or_nand2 imp_and_l SealT SealOs sealO_cells sl_lit sl_any sl_agg sl_tup sl_sl sl_rsl slO sl_esl sl_nil sl_eslesl sl_eslnil sl_rslrsl sl_eslrsl sl_nilrsl sl_ptr sl_iptr sl_ptri slP sl_clo sl_mp sl_gv sll_nil sll_cons slll_nil slll_cons shut_eq shutO Option.join_none Fn.func.injEq and_self sealL_self sealLL_self seal_self PureL PureLL Pure Nat.le_refl Nat.zero_le AV.lit.injEq Value.int.injEq Value.bool.injEq false_or or_true true_or Int.natCast_zero Int.ofNat_zero Int.cast_ofNat_Int Int.natCast_add Int.natCast_one Option.some.injEq piL_is sop_nil sop_cons sop_none sop_some sopO_some sop_new shut_pi shutL_nil shutL_cons exQ_exit exQ_ret exQ_normal Go.Sim.Try.ty_load1 Go.Sim.Try.ty_zero1 Go.Sim.Try.ty_load2 Go.Sim.Try.ty_zero2 Go.Sim.Try.ty_und2 Go.Sim.Try.ty_load3 Go.Sim.Try.ty_zero3 Go.Sim.Try.ty_und3 Go.Sim.Try.ty_load4 Go.Sim.Try.ty_zero4 Go.Sim.Try.ty_und4 Go.Sim.Try.ty_load5 Go.Sim.Try.ty_zero5 Go.Sim.Try.ty_und5 Go.Sim.Try.ty_load9 Go.Sim.Try.ty_zero9 Go.Sim.Try.ty_und9 Go.Sim.Try.ty_load21 Go.Sim.Try.ty_zero21 Go.Sim.Try.ty_und21 Go.Sim.Try.ty_load22 Go.Sim.Try.ty_zero22 Go.Sim.Try.ty_el22 Go.Sim.Try.ty_zeroE22 Go.Sim.Try.ty_load23 Go.Sim.Try.ty_zero23 Go.Sim.Try.ty_el23 Go.Sim.Try.ty_zeroE23 Go.Sim.Try.ty_load25 Go.Sim.Try.ty_zero25 Go.Sim.Try.ty_fld25_0 Go.Sim.Try.ty_part25_0 Go.Sim.Try.ty_fld25_1 Go.Sim.Try.ty_part25_1 Go.Sim.Try.ty_fld25_2 Go.Sim.Try.ty_part25_2 Go.Sim.Try.ty_struct25 Go.Sim.Try.ty_load29 Go.Sim.Try.ty_zero29 Go.Sim.Try.ty_el29 Go.Sim.Try.ty_zeroE29 Go.Sim.Try.ty_load34 Go.Sim.Try.ty_zero34 Go.Sim.Try.ty_und34 Go.Sim.Try.ty_load41 Go.Sim.Try.ty_zero41 Go.Sim.Try.ty_fld41_0 Go.Sim.Try.ty_part41_0 Go.Sim.Try.ty_fld41_1 Go.Sim.Try.ty_part41_1 Go.Sim.Try.ty_fld41_2 Go.Sim.Try.ty_part41_2 Go.Sim.Try.ty_struct41 Go.Sim.Try.ty_load47 Go.Sim.Try.ty_zero47 Go.Sim.Try.ty_el47 Go.Sim.Try.ty_zeroE47 Go.Sim.Try.ty_load55 Go.Sim.Try.ty_zero55 Go.Sim.Try.ty_fld55_0 Go.Sim.Try.ty_part55_0 Go.Sim.Try.ty_fld55_1 Go.Sim.Try.ty_part55_1 Go.Sim.Try.ty_fld55_2 Go.Sim.Try.ty_part55_2 Go.Sim.Try.ty_fld55_3 Go.Sim.Try.ty_part55_3 Go.Sim.Try.ty_struct55 Go.Sim.Try.ty_load56 Go.Sim.Try.ty_zero56 Go.Sim.Try.ty_load58 Go.Sim.Try.ty_zero58 Go.Sim.Try.ty_fld58_0 Go.Sim.Try.ty_part58_0 Go.Sim.Try.ty_fld58_1 Go.Sim.Try.ty_part58_1 Go.Sim.Try.ty_struct58 Go.Sim.Try.ty_load60 Go.Sim.Try.ty_zero60 Go.Sim.Try.ty_load67 Go.Sim.Try.ty_zero67 Go.Sim.Try.ty_el67 Go.Sim.Try.ty_zeroE67 Go.Sim.Try.ty_load68 Go.Sim.Try.ty_zero68 Go.Sim.Try.ty_und68 Go.Sim.Try.ty_vzero58 Go.Sim.Try.ty_load72 Go.Sim.Try.ty_zero72 Go.Sim.Try.ty_el72 Go.Sim.Try.ty_zeroE72 Go.Sim.Try.ty_load79 Go.Sim.Try.ty_zero79 Go.Sim.Try.ty_load80 Go.Sim.Try.ty_zero80 Go.Sim.Try.ty_und80 Go.Sim.Try.ty_vzero4 Go.Sim.Try.ty_load82 Go.Sim.Try.ty_zero82 Go.Sim.Try.ty_fld82_0 Go.Sim.Try.ty_part82_0 Go.Sim.Try.ty_fld82_1 Go.Sim.Try.ty_part82_1 Go.Sim.Try.ty_fld82_2 Go.Sim.Try.ty_part82_2 Go.Sim.Try.ty_struct82 Go.Sim.Try.ty_load86 Go.Sim.Try.ty_zero86 Go.Sim.Try.ty_und86 Go.Sim.Try.ty_vzero3 Go.Sim.Try.ty_load87 Go.Sim.Try.ty_zero87 Go.Sim.Try.ty_arr87 Go.Sim.Try.ty_part87_0 Go.Sim.Try.ty_part87_1 Go.Sim.Try.ty_struct87 Go.Sim.Try.ty_load98 Go.Sim.Try.ty_zero98 Go.Sim.Try.ty_und98 Go.Sim.Try.ty_load100 Go.Sim.Try.ty_zero100 Go.Sim.Try.ty_und100 Go.Sim.Try.ty_el100 Go.Sim.Try.ty_zeroE100 Go.Sim.Try.ty_load104 Go.Sim.Try.ty_zero104 Go.Sim.Try.ty_load109 Go.Sim.Try.ty_zero109 Go.Sim.Try.ty_load112 Go.Sim.Try.ty_zero112 Go.Sim.Try.ty_und112 Go.Sim.Try.ty_load119 Go.Sim.Try.ty_zero119 Go.Sim.Try.ty_und119 Go.Sim.Try.ty_load121 Go.Sim.Try.ty_zero121 Go.Sim.Try.ty_und121 Go.Sim.Try.ty_load129 Go.Sim.Try.ty_zero129 Go.Sim.Try.ty_und129 Go.Sim.Try.ty_load133 Go.Sim.Try.ty_zero133
section
attribute [local push_cast] encT_mk encT_take encT_len encT_one encTs_pure encT_pure encIs_pure encNs_pure encN_eq encM_eq encJ_eq encJs_pure plus_obj0 plus_set0 piL_is00 piL_is0 piL_isk encIs_one encNs_four
def pw2 (k : Nat) : Nat := 2 ^ k
set_option maxHeartbeats 4000000 in
theorem growAll_ok (n : Int) (picks : List Int) (hpl : picks.length ≤ 140737488355328) : Quiet Go.Proofs.Try.prog 11 [.int n, .sl (picks.map encI)] (.bool true) := by
  have hS := Start_ok n
  refine quiet_of (rs := #[.tmp 4]) Go.Proofs.Try.func11 rfl rfl rfl mixed rfl rfl fun H hs => ?_
  push_cast -implicitDefEqProofs [eq_self, iff_self]
  refine callq Awake_ok ?_
  push_cast -implicitDefEqProofs [eq_self, iff_self]
  refine callq hS ?_
  by_cases hp : 4000 < picks.length
  · have hp' : decide ((4000 : Int) < (picks.length : Int)) = true := decide_eq_true (by omega)
    generalize start n = q
    obtain ⟨m, g, b⟩ := q
    push_cast -implicitDefEqProofs [eq_self, iff_self, hp', List.length_map]
  have hp' : decide ((4000 : Int) < (picks.length : Int)) = false := decide_eq_false (by omega)
  by_cases hn : 1 ≤ n ∧ n ≤ 4
  · obtain ⟨k, rfl⟩ : ∃ k : Nat, n = k := ⟨n.toNat, by omega⟩
    have hk1 : 1 ≤ k := by omega
    have hk4 : k ≤ 4 := by omega
    have hst : start (k : Int) = (stM k (k - 1), lastM k (k - 1), true) := by rw [start, if_pos hn]; rfl
    obtain ⟨hgood, _, _, hlast⟩ := st_good k hk1 hk4
    obtain ⟨hcode, φ, hran⟩ := ran k hk1 hk4 picks
    obtain ⟨htl, htm⟩ := hran.trees ⟨hk1, hk4⟩
    have hRun := Run_ok (stM k (k - 1)) (small_of hgood.may) picks (by omega)
    have hxs := small_of hran.good.may
    have hTr := Trees_ok _ hxs (g0 k : Nat)
    have hFu := Full_ok _ hxs
    have hMa := MayM_ok _ hxs
    have hsh := hran.good.short.1
    rw [hran.fullT] at hFu
    rw [hran.good.may] at hMa
    have hTs := treesM_short ((stM k (k - 1)).run picks).1 (g0 k : Nat)
    have hTo := treesM_ok (m := ((stM k (k - 1)).run picks).1) (g := (g0 k : Nat))
    have hpw : ∀ i, i ≤ k → pw2 i ≤ 16 := fun i hi => by
      have : 2 ^ i ≤ 2 ^ 4 := Nat.pow_le_pow_right (by omega) (by omega)
      exact this
    have hpw1 : 1 ≤ pw2 k := Nat.one_le_two_pow
    have hpws : ∀ i, pw2 (i + 1) = 2 * pw2 i := fun i => by unfold pw2; rw [Nat.pow_succ]; omega
    have hpw0 : pw2 0 = 1 := rfl
    rw [show 2 ^ k = pw2 k from rfl] at htl htm
    have hAll := AllT_ok ((pw2 k - 1 : Nat) : Int)
    have hAo : ∀ t ∈ allT 4 ((pw2 k - 1 : Nat) : Int), t.Ok := fun t ht => may_ok ((allT_mem 4 _ t).1 ht).1
    rw [hst, hlast]
    clear hst hlast hran hgood
    generalize treesM ((stM k (k - 1)).run picks).1 (g0 k : Nat) = L at *
    generalize allT 4 ((pw2 k - 1 : Nat) : Int) = A at *
    generalize ((stM k (k - 1)).run picks) = q at *
    obtain ⟨x, c, e⟩ := q
    dsimp only at *
    subst hcode
    generalize stM k (k - 1) = m at *
    push_cast -implicitDefEqProofs [eq_self, iff_self, hp', List.length_map]
    refine callq hRun ?_
    push_cast -implicitDefEqProofs [eq_self, iff_self]
    refine loop_at hs (σ := Nat) (fun i => i ≤ k) (fun i => k - i)
      (fun i => [(13, .int i), (12, .int (pw2 i : Nat)), (11, .int 0), (0, .int k), (7, .int (g0 k : Nat)), (6, .ptr (H.nxt + 0) 3 0 0), (9, .ptr (H.nxt + 1) 3 0 0)])
      (fun i => [some (.cells 3 [[.sl (m.N.map encN), .sl (m.G.map encI), .sl (m.P.map encI)]] 0), some (.cells 3 [[.sl (x.N.map encN), .sl (x.G.map encI), .sl (x.P.map encI)]] 0)]) [some 0, some 1] 0 (by omega) rfl ?_ ?_ ?_
    · (try push_cast -implicitDefEqProofs [eq_self, iff_self, hpw0])
    · (try push_cast -implicitDefEqProofs [eq_self, iff_self])
    intro i hi
    by_cases hik : i < k
    · have hi' : ((i : Int) < (k : Int)) = True := by simp; omega
      have hpi := hpw i hi
      have hp2 := hpws i
      have he : (2 : Int) * ((pw2 i : Nat) : Int) = ((pw2 (i + 1) : Nat) : Int) := by omega
      push_cast -implicitDefEqProofs [eq_self, iff_self, hi']
      rw [wrap64 (n := 2 * _) (by omega) (by omega), wrap64 (n := (i : Int) + 1) (by omega) (by omega), he]
      refine next_at [some 0, some 1] (i + 1) (by omega) (by omega) rfl ?_ ?_
      · (try push_cast -implicitDefEqProofs [eq_self, iff_self])
      · (try push_cast -implicitDefEqProofs [eq_self, iff_self])
    obtain rfl : i = k := by omega
    have hi' : ((i : Int) < (i : Int)) = False := by simp
    have he : ((pw2 i : Nat) : Int) - 1 = ((pw2 i - 1 : Nat) : Int) := by omega
    have hpi := hpw i hi
    push_cast -implicitDefEqProofs [eq_self, iff_self, hi']
    rw [wrap64 (by omega) (by omega), he]
    refine callq hAll ?_
    push_cast -implicitDefEqProofs [eq_self, iff_self]
    refine callq hTr ?_
    have hNd : decide ((184 : Int) < (x.N.length : Int)) = false := decide_eq_false (by omega)
    have hLA : decide ((L.length : Int) = (A.length : Int)) = true := decide_eq_true (by omega)
    push_cast -implicitDefEqProofs [eq_self, iff_self, hNd, hLA, List.length_map]
    refine gcall trivial (callq hFu ?_)
    push_cast -implicitDefEqProofs [eq_self, iff_self]
    refine gcall trivial (callq hMa ?_)
    push_cast -implicitDefEqProofs [eq_self, iff_self]
    refine loop_at hs (σ := Nat) (fun i => i ≤ A.length) (fun i => A.length - i)
      (fun i => [(16, .int i), (14, .sl (A.map encT)), (15, .sl (L.map encT))]) (fun i => []) [] 0 (by omega) rfl ?_ ?_ ?_
    · (try push_cast -implicitDefEqProofs [eq_self, iff_self])
    · (try push_cast -implicitDefEqProofs [eq_self, iff_self])
    intro j hj
    by_cases hil : j < A.length
    · have hi3 : ((j : Int) < A.length) = True := by simp; omega
      have hi0 : (0 ≤ (j : Int)) = True := by simp
      have hget := encTs_get A j hil
      have hin := htm _ (List.getElem_mem hil)
      have hto := hAo _ (List.getElem_mem hil)
      generalize A[j] = t at hget hin hto
      have hH := Has8_ok L t (by omega) hTo hto
      have hany : (L.any fun x => sameT x t) = true := List.any_eq_true.2 ⟨t, hin, sameT_self t⟩
      rw [hany] at hH
      push_cast -implicitDefEqProofs [eq_self, iff_self, hi3, hi0, hget, List.length_map]
      refine callq hH ?_
      push_cast -implicitDefEqProofs [eq_self, iff_self]
      rw [wrap64 (n := (j : Int) + 1) (by omega) (by omega)]
      refine next_at [] (j + 1) (by omega) (by omega) rfl ?_ ?_
      · (try push_cast -implicitDefEqProofs [eq_self, iff_self])
      · (try push_cast -implicitDefEqProofs [eq_self, iff_self])
    · obtain rfl : j = A.length := by omega
      have hi3 : ((A.length : Int) < (A.length : Int)) = False := by simp
      push_cast -implicitDefEqProofs [eq_self, iff_self, hi3, List.length_map]
  · have hst : start n = (⟨[], [], []⟩, -1, false) := by rw [start, if_neg hn]
    rw [hst]
    have hd : (decide (n < 1) || decide (4 < n)) = true := by
      rw [Bool.or_eq_true, decide_eq_true_eq, decide_eq_true_eq]; omega
    push_cast -implicitDefEqProofs [eq_self, iff_self, hp', List.length_map]
    exact hd
theorem growAll_law (us : List AV) (h : ToldAll Go.Proofs.Try.prog Go.Proofs.Try.f11.params.toList us) : Quiet Go.Proofs.Try.prog 11 us (.bool true) := by
  have e1 : Go.Proofs.Try.f11.params.toList = [3, 23] := by kernel_rfl
  rw [e1] at h
  obtain ⟨n, u1, rfl, _, h1⟩ := told_I h
  obtain ⟨l, u2, rfl, hl, h2⟩ := told_Is h1
  obtain rfl := told_nil h2
  exact growAll_ok n l hl
end
end Go.Sim.Try
