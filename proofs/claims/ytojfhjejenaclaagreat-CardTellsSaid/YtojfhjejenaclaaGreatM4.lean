/- What the row rests on, part 4. Conditions: none. -/
import Derived.Test.YtojfhjejenaclaaGreatM3
set_option linter.unusedVariables false
set_option linter.unusedSimpArgs false
namespace Go.Sim
open Go

/-- Each once, in order. -/
def uniq (l : List Int) : List Int := Lib.compact (l.mergeSort fun x y => decide (x ≤ y))

theorem sort_pw (l : List Int) : (l.mergeSort fun x y => decide (x ≤ y)).Pairwise (· ≤ ·) := by
  have := List.pairwise_mergeSort (le := fun x y : Int => decide (x ≤ y)) (fun a b c h1 h2 => by simp at h1 h2 ⊢; omega) (fun a b => by simp; omega) l
  exact this.imp (fun h => by simpa using h)
theorem sort_mem (l : List Int) (x : Int) : x ∈ (l.mergeSort fun x y => decide (x ≤ y)) ↔ x ∈ l := List.mem_mergeSort

theorem compactUpTo_spec (d : List Int) (hd : d.Pairwise (· ≤ ·)) : ∀ m, m ≤ d.length →
    (Lib.compactUpTo d.toArray m).Pairwise (· < ·) ∧ (∀ x, x ∈ Lib.compactUpTo d.toArray m ↔ ∃ j, j < m ∧ d.toArray[j]! = x) ∧ (∀ x ∈ Lib.compactUpTo d.toArray m, 0 < m → x ≤ d.toArray[m - 1]!) := by
  have get : ∀ j (h : j < d.length), d.toArray[j]! = d[j] := fun j h => by simp [h]
  intro m
  induction m with
  | zero => intro _; simp [Lib.compactUpTo]
  | succ m ih =>
    intro hm
    obtain ⟨h1, h2, h3⟩ := ih (by omega)
    rw [Lib.compactUpTo_succ]
    by_cases hk : Lib.keeps d.toArray m = true
    · rw [if_pos hk]
      have hlt : ∀ x ∈ Lib.compactUpTo d.toArray m, x < d.toArray[m]! := by
        intro x hx
        obtain ⟨j, hj, rfl⟩ := (h2 x).1 hx
        have h4 := h3 _ hx (by omega)
        have h5 : d.toArray[m - 1]! ≤ d.toArray[m]! := by
          rw [get _ (by omega), get _ (by omega)]
          exact List.pairwise_iff_getElem.1 hd (m - 1) m (by omega) (by omega) (by omega)
        have h6 : d.toArray[m]! ≠ d.toArray[m - 1]! := by
          simp only [Lib.keeps, decide_eq_true_eq] at hk
          rcases hk with h | h
          · omega
          · exact h
        omega
      refine ⟨List.pairwise_append.2 ⟨h1, by simp, fun x hx y hy => by rw [List.mem_singleton] at hy; subst hy; exact hlt x hx⟩, fun x => ?_, fun x hx _ => ?_⟩
      · rw [List.mem_append, h2 x, List.mem_singleton]
        constructor
        · rintro (⟨j, hj, rfl⟩ | rfl)
          · exact ⟨j, by omega, rfl⟩
          · exact ⟨m, by omega, rfl⟩
        · rintro ⟨j, hj, rfl⟩
          by_cases e : j = m
          · subst e; exact .inr rfl
          · exact .inl ⟨j, by omega, rfl⟩
      · rw [List.mem_append, List.mem_singleton] at hx
        rw [Nat.add_sub_cancel]
        rcases hx with hx | rfl
        · exact Int.le_of_lt (hlt x hx)
        · exact Int.le_refl _
    · rw [if_neg hk, List.append_nil]
      have hk' : m ≠ 0 ∧ d.toArray[m]! = d.toArray[m - 1]! := by
        simp only [Lib.keeps, decide_eq_true_eq, not_or, Decidable.not_not] at hk
        exact hk
      refine ⟨h1, fun x => ?_, fun x hx _ => ?_⟩
      · rw [h2 x]
        constructor
        · rintro ⟨j, hj, rfl⟩; exact ⟨j, by omega, rfl⟩
        · rintro ⟨j, hj, rfl⟩
          by_cases e : j = m
          · subst e; exact ⟨j - 1, by omega, hk'.2.symm⟩
          · exact ⟨j, by omega, rfl⟩
      · have := h3 x hx (by omega)
        rw [Nat.add_sub_cancel, hk'.2]
        exact this
theorem uniq_pw (l : List Int) : (uniq l).Pairwise (· < ·) := (compactUpTo_spec _ (sort_pw l) _ (Nat.le_refl _)).1
theorem uniq_mem (l : List Int) (x : Int) : x ∈ uniq l ↔ x ∈ l := by
  unfold uniq Lib.compact
  rw [(compactUpTo_spec _ (sort_pw l) _ (Nat.le_refl _)).2.1 x, ← sort_mem l x, List.mem_iff_getElem]
  constructor
  · rintro ⟨j, hj, h⟩
    refine ⟨j, hj, ?_⟩
    rw [← h]
    simp [List.getElem?_eq_getElem hj]
  · rintro ⟨j, hj, h⟩
    refine ⟨j, hj, ?_⟩
    rw [← h]
    simp [List.getElem?_eq_getElem hj]
theorem pw_nodup {l : List Int} (h : l.Pairwise (· < ·)) : l.Nodup := h.imp fun h => by omega
theorem nodup_len : ∀ {l m : List Int}, l.Nodup → (∀ x ∈ l, x ∈ m) → l.length ≤ m.length
  | [], m, _, _ => Nat.zero_le _
  | a :: l, m, h, hs => by
    rw [List.nodup_cons] at h
    have ha : a ∈ m := hs a (by simp)
    have := nodup_len (l := l) (m := m.erase a) h.2 fun x hx => by
      have hxm := hs x (by simp [hx])
      exact (List.mem_erase_of_ne (fun e => by subst e; exact h.1 hx)).2 hxm
    rw [List.length_erase_of_mem ha] at this
    have hp : 0 < m.length := List.length_pos_of_mem ha
    simp only [List.length_cons]
    omega
/-- Two that are in order, each once, and have the same are the same. -/
theorem pw_ext : ∀ {l m : List Int}, l.Pairwise (· < ·) → m.Pairwise (· < ·) → (∀ x, x ∈ l ↔ x ∈ m) → l = m
  | [], m, _, _, h => by
    cases m with
    | nil => rfl
    | cons b m => exact absurd ((h b).2 (by simp)) (by simp)
  | a :: l, [], _, _, h => absurd ((h a).1 (by simp)) (by simp)
  | a :: l, b :: m, hl, hm, h => by
    rw [List.pairwise_cons] at hl hm
    have hab : a = b := by
      have h1 := (h a).1 (by simp)
      have h2 := (h b).2 (by simp)
      rw [List.mem_cons] at h1 h2
      rcases h1 with h1 | h1
      · exact h1
      · rcases h2 with h2 | h2
        · exact h2.symm
        · have := hm.1 a h1
          have := hl.1 b h2
          omega
    subst hab
    congr 1
    refine pw_ext hl.2 hm.2 fun x => ?_
    have hx := h x
    simp only [List.mem_cons] at hx
    constructor
    · intro h1
      rcases hx.1 (.inr h1) with rfl | h2
      · exact absurd (hl.1 _ h1) (by omega)
      · exact h2
    · intro h1
      rcases hx.2 (.inr h1) with rfl | h2
      · exact absurd (hm.1 _ h1) (by omega)
      · exact h2
theorem uniq_len (l : List Int) : (uniq l).length ≤ l.length := nodup_len (pw_nodup (uniq_pw l)) fun x hx => (uniq_mem l x).1 hx
end Go.Sim
set_option linter.unusedSimpArgs false
set_option linter.unusedVariables false
set_option maxRecDepth 100000
namespace Go.Sim.Tryz
open Go Go.Sim
attribute [local push_cast] aops_cons aops_nil aopG_none aopG_some aopP_eq aopE_eq aopC_eq aopE?_eq aopC?_eq aopB_eq aopB?_eq abr anilq gopP_eq gopL_eq ahead_cons ahead_nil ahdG_none ahdG_some ahdP_eq ahdN_eq ahdC_eq ahdN?_eq ahdS_eq ahdS?_eq astoreN ahdC?_eq ghdP_eq ghdC_eq ghdC?_eq ghdZ_f ghdZ_t ahdI_eq ahdI?_eq ghdN?_eq aim_nil aim_cons isIn_nil isIn_none isIn_cons aimm aheP_eq aheA_eq aheC_eq aheC?_eq aheI?_eq aheA?_eq gheP_eq gheC_eq gheC?_eq gheZ_eq aheG_none aheG_some aheff_cons aheff_nil aapp gro_rsl gro_lit gro_esl opt_some opt_none no_eq acondT_true acondT_false acondT_lit aw_skip aw_region aw_regionD aw_seq aw_cond aw_block aw_loop aw_exit aw_label aw_ret thn_normal thn_exit thn_ret inb_normal inb_exit inb_ret qret_ret qret_normal gcond apure aeff anew acallee ares aresT aresL aresC ares1 qfin_eq ev ofV evL gokL tget tput_some tput_none initT abin aint aun aload afaddr aiaddr afield aindex aextract apick pickv_lit Bool.or_false Bool.false_or Bool.or_true Bool.true_or imp_self aslice chunk roomB abound aconv abuild afill splice alen aminmax abuiltin anil apart Value.oneCell' astore aappend srcEs abuildSlice asets isEq plus_obj plus_nxt plus_add plus_set plus_del IntKind.bits Option.map_some Option.map_none Option.bind_some Option.bind_none Option.join_some Option.getD_some Option.getD_none Option.toList Option.isSome_some List.getElem?_toArray List.getElem?_cons_zero List.getElem?_cons_succ List.getElem?_nil List.length_cons List.length_nil List.length_map List.head?_cons List.cons_append List.nil_append List.append_nil List.map_cons List.map_nil List.getD_cons_zero List.getD_cons_succ List.replicate_succ List.replicate_zero List.set_cons_zero List.set_cons_succ List.take_succ_cons List.take_zero List.drop_succ_cons List.drop_zero List.all_cons List.all_nil Nat.zero_add if_true if_false true_and and_true false_and and_false true_implies implies_true forall_const Bool.and_true Bool.true_and Bool.false_and Bool.and_false Bool.true_beq Bool.false_beq Bool.not_not beq_tt beq_ff Int.toNat_natCast decide_true decide_false Bool.not_true Bool.not_false Bool.true_eq_false Bool.false_eq_true false_implies exists_prop eq_self bne_self_eq_false beq_self_eq_true decide_eq_true_eq decide_eq_false_iff_not Bool.not_eq_true' Bool.not_eq_false' AV.int AV.bool AV.nilS ne_eq not_false_eq_true not_true_eq_false exists_eq_left exists_eq_left' Nat.lt_irrefl core_lit grd_lit acells_lit one_lit core_agg grd_agg acells_agg one_agg core_tup grd_tup acells_tup one_tup core_sl grd_sl acells_sl one_sl core_esl grd_esl acells_esl one_esl core_rsl grd_rsl acells_rsl one_rsl core_ptr grd_ptr acells_ptr one_ptr core_iptr grd_iptr acells_iptr one_iptr core_clo grd_clo acells_clo one_clo core_mp grd_mp acells_mp one_mp core_any grd_any acells_any one_any core_gv grd_gv fit_agg fit_lit fit_sl fit_esl fit_rsl fit_ptr fit_iptr fit_clo fit_mp retq_ret retq_normal set_nxt set_set plus_obj_set plus_set_set app_get0 app_get app_set0 app_set List.append_assoc List.length_append List.length_set Nat.lt_add_one Nat.add_lt_add_iff_right Nat.lt_add_right_iff_pos Nat.add_lt_add_iff_left List.mem_cons List.not_mem_nil or_false forall_eq forall_eq_or_imp lt_s0 lt_s1 lt_s2 lt_s3 lt_s4 lt_s5 lt_s6 lt_s7 lt_s8 pickv_t pickv_f or_nand or_nand2 imp_and_l SealT SealOs sealO_cells sl_lit sl_any sl_agg sl_tup sl_sl sl_rsl slO sl_esl sl_nil sl_eslesl sl_eslnil sl_rslrsl sl_eslrsl sl_nilrsl sl_ptr sl_iptr sl_ptri slP sl_clo sl_mp sl_gv sll_nil sll_cons slll_nil slll_cons shut_eq shutO Option.join_none Fn.func.injEq and_self sealL_self sealLL_self seal_self PureL PureLL Pure Nat.le_refl Nat.zero_le AV.lit.injEq Value.int.injEq Value.bool.injEq false_or or_true true_or Int.natCast_zero Int.ofNat_zero Int.cast_ofNat_Int Int.natCast_add Int.natCast_one Option.some.injEq piL_is sop_nil sop_cons sop_none sop_some sopO_some sop_new shut_pi shutL_nil shutL_cons exQ_exit exQ_ret exQ_normal Go.Sim.Tryz.ty_load1 Go.Sim.Tryz.ty_zero1 Go.Sim.Tryz.ty_load2 Go.Sim.Tryz.ty_zero2 Go.Sim.Tryz.ty_und2 Go.Sim.Tryz.ty_load3 Go.Sim.Tryz.ty_zero3 Go.Sim.Tryz.ty_und3 Go.Sim.Tryz.ty_load4 Go.Sim.Tryz.ty_zero4 Go.Sim.Tryz.ty_und4 Go.Sim.Tryz.ty_load5 Go.Sim.Tryz.ty_zero5 Go.Sim.Tryz.ty_und5 Go.Sim.Tryz.ty_load9 Go.Sim.Tryz.ty_zero9 Go.Sim.Tryz.ty_und9 Go.Sim.Tryz.ty_load22 Go.Sim.Tryz.ty_zero22 Go.Sim.Tryz.ty_el22 Go.Sim.Tryz.ty_zeroE22 Go.Sim.Tryz.ty_load24 Go.Sim.Tryz.ty_zero24 Go.Sim.Tryz.ty_fld24_0 Go.Sim.Tryz.ty_part24_0 Go.Sim.Tryz.ty_struct24 Go.Sim.Tryz.ty_load25 Go.Sim.Tryz.ty_zero25 Go.Sim.Tryz.ty_el25 Go.Sim.Tryz.ty_zeroE25 Go.Sim.Tryz.ty_load26 Go.Sim.Tryz.ty_zero26 Go.Sim.Tryz.ty_el26 Go.Sim.Tryz.ty_zeroE26 Go.Sim.Tryz.ty_load28 Go.Sim.Tryz.ty_zero28 Go.Sim.Tryz.ty_fld28_0 Go.Sim.Tryz.ty_part28_0 Go.Sim.Tryz.ty_fld28_1 Go.Sim.Tryz.ty_part28_1 Go.Sim.Tryz.ty_fld28_2 Go.Sim.Tryz.ty_part28_2 Go.Sim.Tryz.ty_fld28_3 Go.Sim.Tryz.ty_part28_3 Go.Sim.Tryz.ty_fld28_4 Go.Sim.Tryz.ty_part28_4 Go.Sim.Tryz.ty_fld28_5 Go.Sim.Tryz.ty_part28_5 Go.Sim.Tryz.ty_struct28 Go.Sim.Tryz.ty_load36 Go.Sim.Tryz.ty_zero36 Go.Sim.Tryz.ty_fld36_0 Go.Sim.Tryz.ty_part36_0 Go.Sim.Tryz.ty_fld36_1 Go.Sim.Tryz.ty_part36_1 Go.Sim.Tryz.ty_struct36 Go.Sim.Tryz.ty_load38 Go.Sim.Tryz.ty_zero38 Go.Sim.Tryz.ty_fld38_0 Go.Sim.Tryz.ty_part38_0 Go.Sim.Tryz.ty_fld38_1 Go.Sim.Tryz.ty_part38_1 Go.Sim.Tryz.ty_fld38_2 Go.Sim.Tryz.ty_part38_2 Go.Sim.Tryz.ty_fld38_3 Go.Sim.Tryz.ty_part38_3 Go.Sim.Tryz.ty_struct38 Go.Sim.Tryz.ty_load48 Go.Sim.Tryz.ty_zero48 Go.Sim.Tryz.ty_el48 Go.Sim.Tryz.ty_zeroE48 Go.Sim.Tryz.ty_load51 Go.Sim.Tryz.ty_zero51 Go.Sim.Tryz.ty_arr51 Go.Sim.Tryz.ty_part51_0 Go.Sim.Tryz.ty_part51_1 Go.Sim.Tryz.ty_struct51 Go.Sim.Tryz.ty_load59 Go.Sim.Tryz.ty_zero59 Go.Sim.Tryz.ty_fld59_0 Go.Sim.Tryz.ty_part59_0 Go.Sim.Tryz.ty_fld59_1 Go.Sim.Tryz.ty_part59_1 Go.Sim.Tryz.ty_struct59 Go.Sim.Tryz.ty_load60 Go.Sim.Tryz.ty_zero60 Go.Sim.Tryz.ty_el60 Go.Sim.Tryz.ty_zeroE60 Go.Sim.Tryz.ty_load62 Go.Sim.Tryz.ty_zero62 Go.Sim.Tryz.ty_fld62_0 Go.Sim.Tryz.ty_part62_0 Go.Sim.Tryz.ty_struct62 Go.Sim.Tryz.ty_load67 Go.Sim.Tryz.ty_zero67 Go.Sim.Tryz.ty_load68 Go.Sim.Tryz.ty_zero68 Go.Sim.Tryz.ty_load75 Go.Sim.Tryz.ty_zero75 Go.Sim.Tryz.ty_load76 Go.Sim.Tryz.ty_zero76 Go.Sim.Tryz.ty_und76 Go.Sim.Tryz.ty_load82 Go.Sim.Tryz.ty_zero82 Go.Sim.Tryz.ty_und82 Go.Sim.Tryz.ty_load85 Go.Sim.Tryz.ty_zero85 Go.Sim.Tryz.ty_und85 Go.Sim.Tryz.ty_load89 Go.Sim.Tryz.ty_zero89 Go.Sim.Tryz.ty_el89 Go.Sim.Tryz.ty_zeroE89 Go.Sim.Tryz.ty_load90 Go.Sim.Tryz.ty_zero90 Go.Sim.Tryz.ty_el90 Go.Sim.Tryz.ty_zeroE90 Go.Sim.Tryz.ty_load93 Go.Sim.Tryz.ty_zero93 Go.Sim.Tryz.ty_load98 Go.Sim.Tryz.ty_zero98 Go.Sim.Tryz.ty_fld98_0 Go.Sim.Tryz.ty_part98_0 Go.Sim.Tryz.ty_fld98_1 Go.Sim.Tryz.ty_part98_1 Go.Sim.Tryz.ty_fld98_2 Go.Sim.Tryz.ty_part98_2 Go.Sim.Tryz.ty_struct98 Go.Sim.Tryz.ty_load100 Go.Sim.Tryz.ty_zero100 Go.Sim.Tryz.ty_load106 Go.Sim.Tryz.ty_zero106 Go.Sim.Tryz.ty_load110 Go.Sim.Tryz.ty_zero110 Go.Sim.Tryz.ty_und110 Go.Sim.Tryz.ty_load118 Go.Sim.Tryz.ty_zero118 Go.Sim.Tryz.ty_und118 Go.Sim.Tryz.ty_load121 Go.Sim.Tryz.ty_zero121 Go.Sim.Tryz.ty_load128 Go.Sim.Tryz.ty_zero128 Go.Sim.Tryz.ty_und128 Go.Sim.Tryz.ty_load132 Go.Sim.Tryz.ty_zero132 encE_mk encE_take encE_len encV encE_one encEs_pure encE_pure

/-! ### Which one may be -/
mutual
theorem partsR_spec : ∀ (e : Ex) (d : Int), 1 ≤ d → d ≤ 7 → (1 ≤ partsR e d ∧ partsR e d ≤ 1000 - 100 * d) ∧ ((partsR e d ≤ 30) ↔ ((cnt e : Int) ≤ 30 ∧ d + hgt e ≤ 7)) ∧ (partsR e d ≤ 30 → partsR e d = cnt e)
  | .mk op col k n l, d, h1, h2 => by
    rw [partsR, cnt, hgt]
    have hh := hgtL_pos l
    by_cases hd : 6 < d
    · rw [if_pos hd]
      exact ⟨by omega, ⟨fun h => by omega, fun h => by omega⟩, fun h => by omega⟩
    · rw [if_neg hd]
      have := partsL_spec l (d + 1) 1 (by omega) (by omega) (by omega) (by omega)
      push_cast
      omega
theorem partsL_spec : ∀ (l : List Ex) (d n : Int), 2 ≤ d → d ≤ 7 → 1 ≤ n → n ≤ 1100 - 100 * d → (n ≤ partsL l d n ∧ partsL l d n ≤ 1100 - 100 * d) ∧ ((partsL l d n ≤ 30) ↔ (n + cntL l ≤ 30 ∧ d + hgtL l ≤ 7)) ∧ (partsL l d n ≤ 30 → partsL l d n = n + cntL l)
  | [], d, n, h1, h2, h3, h4 => by
    rw [partsL, cntL, hgtL]
    push_cast
    omega
  | x :: l, d, n, h1, h2, h3, h4 => by
    rw [partsL, cntL, hgtL]
    have hx := partsR_spec x d (by omega) h2
    have hp := cnt_pos x
    have hh := hgt_pos x
    by_cases hn : n < 31
    · rw [if_pos hn, wrap64 (by omega) (by omega)]
      have := partsL_spec l d (n + partsR x d) h1 h2 (by omega) (by omega)
      push_cast
      omega
    · rw [if_neg hn]
      push_cast
      omega
end
theorem part_iff (op col k n : Int) (l : List Ex) : (Ex.mk op col k n l).part = true ↔
    (0 ≤ op ∧ op < 11 ∧ (wayLo op ≤ l.length ∧ (l.length : Int) ≤ wayHi op) ∧ (col = 0 ∨ (op = 1 ∧ 0 < col ∧ col ≤ 15)) ∧ ((k = 0 ∧ n = 0) ∨ (op = 0 ∧ 0 ≤ k ∧ k < 3 ∧ (k = 0 ∨ n = 0)))) := by
  show ((decide (0 ≤ op) && decide (op < 11) && (decide (wayLo op ≤ l.length) && decide ((l.length : Int) ≤ wayHi op)) && (decide (col = 0) || (decide (op = 1) && decide (0 < col) && decide (col ≤ 15)))
    && ((decide (k = 0) && decide (n = 0)) || (decide (op = 0) && (decide (0 ≤ k) && decide (k < 3) && (decide (k = 0) || decide (n = 0)))))) = true) ↔ _
  simp only [Bool.and_eq_true, Bool.or_eq_true, decide_eq_true_eq, and_assoc]
theorem head_iff (op col k n : Int) (m : Nat) : headR op col k n m = true ↔ (0 ≤ op ∧ op ≤ 10 ∧ manyR op m = true ∧ (0 ≤ k ∧ k < 3 ∧ (k = 0 ∨ n = 0)) ∧ 0 ≤ col ∧ col ≤ 15 ∧ (op = 1 ∨ col = 0) ∧ (op = 0 ∨ (k = 0 ∧ n = 0))) := by
  show ((decide (0 ≤ op) && decide (op ≤ 10) && manyR op m && (decide (0 ≤ k) && decide (k < 3) && (decide (k = 0) || decide (n = 0))) && decide (0 ≤ col) && decide (col ≤ 15) && (decide (op = 1) || decide (col = 0)) && (decide (op = 0) || (decide (k = 0) && decide (n = 0)))) = true) ↔ _
  simp only [Bool.and_eq_true, Bool.or_eq_true, decide_eq_true_eq, and_assoc]
theorem part_head (op col k n : Int) (l : List Ex) : (Ex.mk op col k n l).part = headR op col k n l.length := by
  rw [Bool.eq_iff_iff, part_iff, head_iff]
  by_cases hop : op < 0 ∨ 10 < op
  · constructor
    · intro h; omega
    · intro h; omega
  · have hc : op = 0 ∨ op = 1 ∨ op = 2 ∨ op = 3 ∨ op = 4 ∨ op = 5 ∨ op = 6 ∨ op = 7 ∨ op = 8 ∨ op = 9 ∨ op = 10 := by omega
    have key : (wayLo op ≤ l.length ∧ (l.length : Int) ≤ wayHi op) ↔ manyR op l.length = true := by
      rcases hc with rfl | rfl | rfl | rfl | rfl | rfl | rfl | rfl | rfl | rfl | rfl <;> simp [wayLo, wayHi, manyR] <;> omega
    rw [key]
    constructor
    · rintro ⟨h1, h2, h3, h4, h5⟩
      exact ⟨h1, by omega, h3, by omega, by omega, by omega, by omega, by omega⟩
    · rintro ⟨h1, h2, h3, h4, h5, h6, h7, h8⟩
      exact ⟨h1, by omega, h3, by omega, by omega⟩
mutual
theorem fine_R : ∀ e : Ex, fineR e = fineE e
  | .mk op col k n l => by rw [fineR, fineE, part_head, fine_RL l]
theorem fine_RL : ∀ l : List Ex, fineRL l = fineL l
  | [] => rfl
  | x :: l => by rw [fineRL, fineL, fine_R x, fine_RL l]
end
theorem mayR_eq (e : Ex) : e.mayR = e.may := by
  rw [Ex.mayR, may_eq, fine_R]
  have := (partsR_spec e 1 (by omega) (by omega)).2.1
  have h : decide (partsR e 1 ≤ 30) = (decide (cnt e ≤ 30) && decide (hgt e ≤ 6)) := by
    rw [Bool.eq_iff_iff, Bool.and_eq_true, decide_eq_true_eq, decide_eq_true_eq, decide_eq_true_eq, this]
    omega
  rw [h]
  cases fineE e <;> cases decide (cnt e ≤ 30) <;> cases decide (hgt e ≤ 6) <;> rfl

/-! ### Columns -/
mutual
theorem has_cols (c : Int) : ∀ e : Ex, hasE c e = (colsOf e).contains c
  | .mk op col k n l => by
    rw [hasE, colsOf, List.contains_append, has_colsL c l]
    by_cases h : op = 1
    · subst h
      simp only [if_true, decide_true, Bool.true_and, List.contains_cons, List.contains_nil, Bool.or_false]
      by_cases h2 : col = c
      · simp [h2]
      · have : (c == col) = false := by simp; omega
        simp [h2, this]
    · simp [h]
theorem has_colsL (c : Int) : ∀ l : List Ex, hasL c l = (colsOfL l).contains c
  | [] => by simp [hasL, colsOfL]
  | x :: l => by rw [hasL, colsOfL, List.contains_append, has_cols c x, has_colsL c l]
end
mutual
theorem cols_range : ∀ e : Ex, fineE e = true → ∀ c ∈ colsOf e, 0 ≤ c ∧ c ≤ 15
  | .mk op col k n l, hf, c, hc => by
    rw [fineE, Bool.and_eq_true, part_head, headR] at hf
    rw [colsOf, List.mem_append] at hc
    rcases hc with hc | hc
    · simp only [Bool.and_eq_true, decide_eq_true_eq] at hf
      split at hc
      · rw [List.mem_singleton] at hc
        subst hc
        exact ⟨hf.1.1.1.1.2, hf.1.1.1.2⟩
      · simp at hc
    · exact cols_rangeL l hf.2 c hc
theorem cols_rangeL : ∀ l : List Ex, fineL l = true → ∀ c ∈ colsOfL l, 0 ≤ c ∧ c ≤ 15
  | [], _, c, hc => by simp [colsOfL] at hc
  | x :: l, hf, c, hc => by
    rw [fineL, Bool.and_eq_true] at hf
    rw [colsOfL, List.mem_append] at hc
    rcases hc with hc | hc
    · exact cols_range x hf.1 c hc
    · exact cols_rangeL l hf.2 c hc
end
theorem upto_mem (n : Nat) (c : Int) : c ∈ upto n ↔ 0 ≤ c ∧ c < n := by
  simp only [upto, List.mem_map, List.mem_range]
  constructor
  · rintro ⟨i, hi, rfl⟩
    exact ⟨by simp, by simpa using hi⟩
  · rintro ⟨h1, h2⟩
    exact ⟨c.toNat, by omega, by simp; omega⟩
theorem upto_pw (n : Nat) : (upto n).Pairwise (· < ·) := by
  rw [upto, List.pairwise_map]
  exact List.pairwise_lt_range.imp fun h => by simpa using h
theorem colsR_eq (e : Ex) : e.colsR = e.cols := by
  rw [Ex.colsR, mayR_eq, cols_eq]
  by_cases h : e.may = true
  · rw [if_pos h, if_pos h]
    have hf : fineE e = true := by
      rw [may_eq] at h
      simp only [Bool.and_eq_true] at h
      exact h.1.1
    refine pw_ext ((upto_pw 16).filter _) (uniq_pw (colsOf e)) fun c => ?_
    show c ∈ hasUpto e 16 ↔ c ∈ uniq (colsOf e)
    rw [uniq_mem, hasUpto, List.mem_filter, upto_mem, has_cols, List.contains_iff_mem]
    constructor
    · exact fun h => h.2
    · intro hc
      have := cols_range e hf c hc
      exact ⟨by omega, hc⟩
  · rw [if_neg h, if_neg h]
end Go.Sim.Tryz
set_option linter.unusedSimpArgs false
set_option linter.unusedVariables false
namespace Go.Sim
open Go

/-- Bit i of a number. -/
def bitI (s : Int) (i : Nat) : Bool := decide (s / 2 ^ i % 2 = 1)
def nat64 (s : Int) : Nat := (s % 18446744073709551616).toNat

theorem ofInt_nat64 (s : Int) : BitVec.ofInt 64 s = BitVec.ofNat 64 (nat64 s) := by
  apply BitVec.eq_of_toNat_eq
  rw [BitVec.toNat_ofInt, BitVec.toNat_ofNat, nat64, Nat.mod_eq_of_lt (by omega)]
  rfl
theorem nat64_lt (s : Int) : nat64 s < 2 ^ 64 := by unfold nat64; omega
theorem bitI_nat (s : Int) (i : Nat) (hi : i < 4) : bitI s i = (nat64 s).testBit i := by
  rw [Nat.testBit_eq_decide_div_mod_eq, bitI, decide_eq_decide, nat64]
  have hc : i = 0 ∨ i = 1 ∨ i = 2 ∨ i = 3 := by omega
  rcases hc with rfl | rfl | rfl | rfl <;> simp only [show (2 : Int) ^ 0 = 1 from rfl, show (2 : Int) ^ 1 = 2 from rfl, show (2 : Int) ^ 2 = 4 from rfl, show (2 : Int) ^ 3 = 8 from rfl, show (2 : Nat) ^ 0 = 1 from rfl, show (2 : Nat) ^ 1 = 2 from rfl, show (2 : Nat) ^ 2 = 4 from rfl, show (2 : Nat) ^ 3 = 8 from rfl] <;> omega
theorem nat64_wrap (n : Nat) (h : n < 2 ^ 64) : nat64 (IntKind.wrap .i64 n) = n := by
  rw [IntKind.wrap_i64, nat64]
  omega
theorem nat64_or (a b : Int) : nat64 (bor .i64 a b) = nat64 a ||| nat64 b := by
  show nat64 (IntKind.wrap .i64 ((BitVec.ofInt 64 a ||| BitVec.ofInt 64 b : BitVec 64).toNat : Int)) = _
  rw [nat64_wrap _ (BitVec.isLt _), ofInt_nat64, ofInt_nat64, BitVec.toNat_or, BitVec.toNat_ofNat, BitVec.toNat_ofNat, Nat.mod_eq_of_lt (nat64_lt a), Nat.mod_eq_of_lt (nat64_lt b)]
theorem nat64_and (a b : Int) : nat64 (band .i64 a b) = nat64 a &&& nat64 b := by
  show nat64 (IntKind.wrap .i64 ((BitVec.ofInt 64 a &&& BitVec.ofInt 64 b : BitVec 64).toNat : Int)) = _
  rw [nat64_wrap _ (BitVec.isLt _), ofInt_nat64, ofInt_nat64, BitVec.toNat_and, BitVec.toNat_ofNat, BitVec.toNat_ofNat, Nat.mod_eq_of_lt (nat64_lt a), Nat.mod_eq_of_lt (nat64_lt b)]
theorem band_in (a b : Int) : -9223372036854775808 ≤ band .i64 a b ∧ band .i64 a b ≤ 9223372036854775807 := by
  show -9223372036854775808 ≤ IntKind.wrap .i64 _ ∧ IntKind.wrap .i64 _ ≤ 9223372036854775807
  rw [IntKind.wrap_i64]
  omega
theorem bor_in (a b : Int) : -9223372036854775808 ≤ bor .i64 a b ∧ bor .i64 a b ≤ 9223372036854775807 := by
  show -9223372036854775808 ≤ IntKind.wrap .i64 _ ∧ IntKind.wrap .i64 _ ≤ 9223372036854775807
  rw [IntKind.wrap_i64]
  omega
/-- What numbers of 64 bits both are is told by what nat64 tells of it. -/
theorem nat64_inj {a b : Int} (ha : -9223372036854775808 ≤ a ∧ a ≤ 9223372036854775807) (hb : -9223372036854775808 ≤ b ∧ b ≤ 9223372036854775807) (h : nat64 a = nat64 b) : a = b := by
  unfold nat64 at h
  omega
theorem band_bit (a b : Int) (i : Nat) (hi : i < 4) : bitI (band .i64 a b) i = (bitI a i && bitI b i) := by
  rw [bitI_nat _ i hi, bitI_nat _ i hi, bitI_nat _ i hi, nat64_and, Nat.testBit_and]
theorem band_one (x : Int) : band .i64 x 1 = x % 2 := by
  refine nat64_inj (band_in _ _) (by omega) ?_
  rw [nat64_and, show nat64 1 = 1 from rfl, Nat.and_one_is_mod]
  unfold nat64
  omega
/-- A bit, as Go tells it. -/
theorem has_bit (s : Int) (i : Nat) (hi : i < 64) : decide (band .i64 (bshr .i64 s i) 1 = 1) = bitI s i := by
  rw [band_one, bitI, bshr, Int.toNat_natCast, Nat.min_eq_left (show i ≤ IntKind.i64.bits from Nat.le_of_lt hi), Int.fdiv_eq_ediv_of_nonneg _ (Int.le_of_lt (Int.pow_pos (by omega)))]
theorem bshr_one (s : Int) : bshr .i64 s 1 = s / 2 := by
  unfold bshr
  have e : (2 : Int) ^ (min (1 : Int).toNat IntKind.i64.bits) = 2 := by decide
  rw [e, Int.fdiv_eq_ediv_of_nonneg _ (by omega)]
/-- The set of those bits that a predicate tells. -/
def ofBits (p : Nat → Bool) : Int := (if p 0 then 1 else 0) + (if p 1 then 2 else 0) + (if p 2 then 4 else 0) + (if p 3 then 8 else 0)
theorem ofBits_range (p : Nat → Bool) : 0 ≤ ofBits p ∧ ofBits p ≤ 15 := by unfold ofBits; split <;> split <;> split <;> split <;> omega
theorem ofBits_bit (p : Nat → Bool) (i : Nat) (hi : i < 4) : bitI (ofBits p) i = p i := by
  have hc : i = 0 ∨ i = 1 ∨ i = 2 ∨ i = 3 := by omega
  unfold ofBits
  rcases hc with rfl | rfl | rfl | rfl <;> cases p 0 <;> cases p 1 <;> cases p 2 <;> cases p 3 <;> rfl
theorem ofBits_ext {p q : Nat → Bool} (h : ∀ i < 4, p i = q i) : ofBits p = ofBits q := by
  unfold ofBits
  rw [h 0 (by omega), h 1 (by omega), h 2 (by omega), h 3 (by omega)]
theorem nat16 {x y : Nat} (hx : x < 16) (hy : y < 16) (h : ∀ i < 4, x.testBit i = y.testBit i) : x = y := by
  have h0 := h 0 (by omega)
  have h1 := h 1 (by omega)
  have h2 := h 2 (by omega)
  have h3 := h 3 (by omega)
  simp only [Nat.testBit_eq_decide_div_mod_eq, decide_eq_decide, show (2 : Nat) ^ 0 = 1 from rfl, show (2 : Nat) ^ 1 = 2 from rfl, show (2 : Nat) ^ 2 = 4 from rfl, show (2 : Nat) ^ 3 = 8 from rfl] at h0 h1 h2 h3
  omega
/-- A set of four is part of another one where each of its bits is one of it. -/
def holdsI (s t : Int) : Bool := (List.range 4).all fun i => !bitI t i || bitI s i
theorem holds_bit (s t : Int) (h0 : 0 ≤ t) (h1 : t ≤ 15) : decide (band .i64 s t = t) = holdsI s t := by
  have hn : nat64 t = t.toNat := by unfold nat64; omega
  rw [Bool.eq_iff_iff, decide_eq_true_eq, holdsI, List.all_eq_true]
  constructor
  · intro h i hi
    have hi4 : i < 4 := List.mem_range.1 hi
    have := band_bit s t i hi4
    rw [h] at this
    cases h2 : bitI t i
    · rfl
    · rw [h2] at this
      simpa using this.symm
  · intro h
    refine nat64_inj (band_in _ _) (by omega) ?_
    rw [nat64_and, hn]
    have hle : nat64 s &&& t.toNat ≤ t.toNat := Nat.and_le_right
    refine nat16 (by omega) (by omega) fun i hi => ?_
    have h2 := h i (List.mem_range.2 hi)
    rw [bitI_nat t i hi, bitI_nat s i hi, hn] at h2
    rw [Nat.testBit_and]
    revert h2
    cases (nat64 s).testBit i <;> cases t.toNat.testBit i <;> simp
theorem bor_range (a b : Int) (ha : 0 ≤ a ∧ a ≤ 15) (hb : 0 ≤ b ∧ b ≤ 15) : bor .i64 a b = ofBits fun i => bitI a i || bitI b i := by
  have hp := ofBits_range fun i => bitI a i || bitI b i
  refine nat64_inj (bor_in _ _) (by omega) ?_
  rw [nat64_or]
  have h1 : nat64 a = a.toNat := by unfold nat64; omega
  have h2 : nat64 b = b.toNat := by unfold nat64; omega
  have h3 : nat64 (ofBits fun i => bitI a i || bitI b i) = (ofBits fun i => bitI a i || bitI b i).toNat := by unfold nat64; omega
  have h4 : nat64 a ||| nat64 b < 2 ^ 4 := Nat.or_lt_two_pow (by omega) (by omega)
  refine nat16 h4 (by omega) fun i hi => ?_
  rw [Nat.testBit_or, ← bitI_nat _ i hi, ← bitI_nat _ i hi, ← bitI_nat _ i hi, ofBits_bit _ i hi]
theorem bshl_one (i : Nat) (hi : i < 4) : bshl .i64 1 i = ofBits fun k => decide (k = i) := by
  have hc : i = 0 ∨ i = 1 ∨ i = 2 ∨ i = 3 := by omega
  rcases hc with rfl | rfl | rfl | rfl <;> decide
end Go.Sim
set_option linter.unusedSimpArgs false
set_option linter.unusedVariables false
namespace Go.Sim.Tryz
open Go Go.Sim

structure Df where
  cols : Int
  rows : Int
structure Qy where
  occ : List Int
  p : List Ex
  by_ : Int
  sums : List Int
  out : List Int
  ord : Int

def Df.may (d : Df) : Bool := decide (1 ≤ d.cols) && decide (d.cols ≤ 4) && (decide (1 ≤ d.rows) && decide (d.rows ≤ 1000000))
def catMay (c : List Df) : Bool := decide (1 ≤ c.length) && decide (c.length ≤ 4) && c.all Df.may
def dfO : Df := ⟨0, 0⟩
/-- The columns of an occurrence of table t. -/
def tabCols (c : List Df) (t : Int) : Int := if 0 ≤ t ∧ t < c.length then (c.getD t.toNat dfO).cols else 0
def isCol (c : List Df) (q : Qy) (id : Int) : Bool := decide (0 ≤ id) && decide (id ≤ 15) && decide (id / 4 < q.occ.length) && decide (id % 4 < tabCols c (q.occ.getD (id / 4).toNat (-1)))
def colsIn (c : List Df) (q : Qy) (is : Nat → Bool) : List Int := (upto 16).filter fun id => isCol c q id && is (id / 4).toNat
def tabOk (c : List Df) (t : Int) : Bool := decide (0 ≤ t) && decide (t < c.length)
def within (l of : List Int) : Bool := l.all fun n => of.contains n
def endMay (q : Qy) (cols : List Int) : Bool :=
  if q.by_ = -1 then decide (1 ≤ q.out.length) && decide (q.out.length ≤ 8) && decide q.out.Nodup && within q.out cols && decide (q.sums.length = 0) && (decide (q.ord = -1) || q.out.contains q.ord)
  else within [q.by_] cols && decide (q.sums.length ≤ 4) && within q.sums cols && decide (q.out.length = 0) && (decide (q.ord = -1) || decide (q.ord = q.by_))
def exIn (cols : List Int) (e : Ex) : Bool := !decide (e.cols.length = 0) && within e.cols cols
def Qy.may (c : List Df) (q : Qy) : Bool :=
  catMay c && decide (1 ≤ q.occ.length) && decide (q.occ.length ≤ 4) && q.occ.all (tabOk c) && decide (q.p.length ≤ 6) && q.p.all (exIn (colsIn c q fun _ => true)) && endMay q (colsIn c q fun _ => true)

/-- An expression's set. -/
def hasOcc (e : Ex) (i : Nat) : Bool := e.cols.any fun c => decide (c / 4 = i)
def setE (e : Ex) : Int := ofBits (hasOcc e)
def exO : Ex := .mk 0 0 0 0 []
def idxF (p : Ex → Bool) (P : List Ex) : List Int := (upto P.length).filter fun i => p (P.getD i.toNat exO)
def ownT (s : Int) (e : Ex) : Bool := holdsI s (setE e)
def newT (a b : Int) (e : Ex) : Bool := ownT (bor .i64 a b) e && !ownT a e && !ownT b e
def Qy.own (q : Qy) (s : Int) : List Int := idxF (ownT s) q.p
def Qy.new (q : Qy) (a b : Int) : List Int := idxF (newT a b) q.p

theorem setE_range (e : Ex) : 0 ≤ setE e ∧ setE e ≤ 15 := ofBits_range _
theorem setE_bit (e : Ex) (i : Nat) (hi : i < 4) : bitI (setE e) i = hasOcc e i := ofBits_bit _ i hi
theorem getD_left {α : Type} (l m : List α) (i : Nat) (d : α) (h : i < l.length) : (l ++ m).getD i d = l.getD i d := by
  rw [List.getD_eq_getElem?_getD, List.getD_eq_getElem?_getD, List.getElem?_append_left h]
theorem upto_snoc (n : Nat) : upto (n + 1) = upto n ++ [(n : Int)] := by simp [upto, List.range_succ]
theorem idxF_snoc (p : Ex → Bool) (P : List Ex) (e : Ex) : idxF p (P ++ [e]) = idxF p P ++ (if p e then [(P.length : Int)] else []) := by
  unfold idxF
  rw [List.length_append, List.length_singleton, upto_snoc, List.filter_append]
  have h1 : (upto P.length).filter (fun i => p ((P ++ [e]).getD i.toNat exO)) = (upto P.length).filter fun i => p (P.getD i.toNat exO) := by
    refine List.filter_congr fun i hi => ?_
    rw [upto_mem] at hi
    have : i.toNat < P.length := by omega
    rw [getD_left _ _ _ _ this]
  rw [h1]
  congr 1
  have h2 : (P ++ [e]).getD ((P.length : Int)).toNat exO = e := by simp
  rw [List.filter_cons, h2]
  split <;> simp_all
theorem snoc_ind {α : Type} {M : List α → Prop} (h0 : M []) (h1 : ∀ l x, M l → M (l ++ [x])) (l : List α) : M l := by
  rw [← List.reverse_reverse l]
  induction l.reverse with
  | nil => exact h0
  | cons x l ih => rw [List.reverse_cons]; exact h1 _ _ ih
theorem idxF_mem (p : Ex → Bool) (P : List Ex) (i : Int) : i ∈ idxF p P ↔ 0 ≤ i ∧ i < P.length ∧ p (P.getD i.toNat exO) = true := by
  rw [idxF, List.mem_filter, upto_mem, and_assoc]
theorem holdsI_iff (s t : Int) : holdsI s t = true ↔ ∀ i, i < 4 → bitI t i = true → bitI s i = true := by
  rw [holdsI, List.all_eq_true]
  constructor
  · intro h i hi ht
    have := h i (List.mem_range.2 hi)
    simpa [ht] using this
  · intro h i hi
    have := h i (List.mem_range.1 hi)
    cases ht : bitI t i
    · rfl
    · simp [this ht]
theorem ownT_iff (s : Int) (e : Ex) : ownT s e = true ↔ ∀ i, i < 4 → hasOcc e i = true → bitI s i = true := by
  rw [ownT, holdsI_iff]
  constructor
  · intro h i hi ht
    exact h i hi (by rw [setE_bit e i hi]; exact ht)
  · intro h i hi ht
    exact h i hi (by rw [← setE_bit e i hi]; exact ht)
def ind (b : Bool) : Nat := if b then 1 else 0
theorem may_split {c : List Df} {q : Qy} (h : q.may c = true) : catMay c = true ∧ 1 ≤ q.occ.length ∧ q.occ.length ≤ 4 ∧ (∀ t ∈ q.occ, 0 ≤ t ∧ t < c.length) ∧ q.p.length ≤ 6 ∧ (∀ e ∈ q.p, e.cols ≠ [] ∧ ∀ x ∈ e.cols, isCol c q x = true) ∧ endMay q (colsIn c q fun _ => true) = true := by
  simp only [Qy.may, Bool.and_eq_true, decide_eq_true_eq, List.all_eq_true] at h
  obtain ⟨⟨⟨⟨⟨⟨h1, h2⟩, h3⟩, h4⟩, h5⟩, h6⟩, h7⟩ := h
  refine ⟨h1, h2, h3, fun t ht => ?_, h5, fun e he => ?_, h7⟩
  · have := h4 t ht
    simpa [tabOk] using this
  · have := h6 e he
    simp only [exIn, Bool.and_eq_true, Bool.not_eq_true', decide_eq_false_iff_not, within, List.all_eq_true, List.contains_iff_mem] at this
    refine ⟨fun e0 => this.1 (by rw [e0]; rfl), fun x hx => ?_⟩
    have hx := this.2 x hx
    simp only [colsIn, List.mem_filter, Bool.and_true] at hx
    exact hx.2
theorem isCol_range {c : List Df} {q : Qy} {id : Int} (h : isCol c q id = true) : 0 ≤ id ∧ id ≤ 15 ∧ id / 4 < q.occ.length := by
  simp only [isCol, Bool.and_eq_true, decide_eq_true_eq] at h
  exact ⟨h.1.1.1, h.1.1.2, h.1.2⟩
end Go.Sim.Tryz
set_option linter.unusedSimpArgs false
set_option linter.unusedVariables false
namespace Go.Sim.Tryz
open Go Go.Sim

theorem fine_of_may {e : Ex} (h : e.may = true) : fineE e = true := by
  rw [may_eq, Bool.and_eq_true, Bool.and_eq_true] at h
  exact h.1.1
theorem cols_mem {e : Ex} (h : e.may = true) (c : Int) : c ∈ e.cols ↔ c ∈ colsOf e := by
  rw [cols_eq, if_pos h]
  exact uniq_mem _ c
end Go.Sim.Tryz
set_option linter.unusedSimpArgs false
set_option linter.unusedVariables false
namespace Go.Sim.Tryz
open Go Go.Sim

/-- The columns of the first k occurrences, as the program tells them. -/
def tabOf (c : List Df) (q : Qy) (o : Nat) : Int := tabCols c (q.occ.getD o (-1))
def colsFrom (o : Nat) (n : Nat) : List Int := (upto n).map fun i => 4 * (o : Int) + i
def colsTo (c : List Df) (q : Qy) (is : Nat → Bool) : Nat → List Int
  | 0 => []
  | k + 1 => colsTo c q is k ++ (if is k then colsFrom k (tabOf c q k).toNat else [])
theorem colsFrom_snoc (o n : Nat) : colsFrom o (n + 1) = colsFrom o n ++ [4 * (o : Int) + n] := by rw [colsFrom, upto_snoc, List.map_append]; rfl
theorem colsFrom_mem (o n : Nat) (x : Int) : x ∈ colsFrom o n ↔ 4 * (o : Int) ≤ x ∧ x < 4 * o + n := by
  rw [colsFrom, List.mem_map]
  constructor
  · rintro ⟨i, hi, rfl⟩
    rw [upto_mem] at hi
    omega
  · intro h
    exact ⟨x - 4 * o, (upto_mem _ _).2 (by omega), by omega⟩
theorem colsFrom_pw (o n : Nat) : (colsFrom o n).Pairwise (· < ·) := by
  rw [colsFrom, List.pairwise_map]
  exact (upto_pw n).imp fun h => by omega
theorem tab_range {c : List Df} (h : catMay c = true) (t : Int) : 0 ≤ tabCols c t ∧ tabCols c t ≤ 4 := by
  unfold tabCols
  split
  · rename_i h1
    have hlt : t.toNat < c.length := by omega
    rw [List.getD_eq_getElem?_getD, List.getElem?_eq_getElem hlt, Option.getD_some]
    simp only [catMay, Bool.and_eq_true, List.all_eq_true] at h
    have h3 := h.2 _ (List.getElem_mem hlt)
    simp only [Df.may, Bool.and_eq_true, decide_eq_true_eq] at h3
    omega
  · omega
theorem colsTo_mem {c : List Df} (h : catMay c = true) (q : Qy) (is : Nat → Bool) : ∀ k (x : Int), x ∈ colsTo c q is k ↔ 0 ≤ x ∧ x < 4 * (k : Int) ∧ is (x / 4).toNat = true ∧ x % 4 < tabOf c q (x / 4).toNat
  | 0, x => by
    rw [colsTo]
    simp only [List.not_mem_nil, false_iff]
    omega
  | k + 1, x => by
    rw [colsTo, List.mem_append, colsTo_mem h q is k]
    have hr := tab_range h (q.occ.getD k (-1))
    have hin : (x ∈ if is k = true then colsFrom k (tabOf c q k).toNat else []) ↔ is k = true ∧ 4 * (k : Int) ≤ x ∧ x < 4 * k + tabOf c q k := by
      have ht : ((tabOf c q k).toNat : Int) = tabOf c q k := Int.toNat_of_nonneg hr.1
      split
      · rename_i hk
        rw [colsFrom_mem, ht]
        simp [hk]
      · rename_i hk
        simp [hk]
    rw [hin]
    have ht4 : tabOf c q k ≤ 4 := hr.2
    constructor
    · rintro (⟨h1, h2, h3⟩ | ⟨h1, h2, h3⟩)
      · exact ⟨h1, by omega, h3⟩
      · have e : (x / 4).toNat = k := by omega
        rw [e]
        exact ⟨by omega, by omega, h1, by omega⟩
    · rintro ⟨h1, h2, h3, h4⟩
      by_cases hx : x < 4 * (k : Int)
      · exact .inl ⟨h1, hx, h3, h4⟩
      · have e : (x / 4).toNat = k := by omega
        rw [e] at h3 h4
        exact .inr ⟨h3, by omega, by omega⟩
theorem colsTo_pw {c : List Df} (h : catMay c = true) (q : Qy) (is : Nat → Bool) : ∀ k, (colsTo c q is k).Pairwise (· < ·)
  | 0 => List.Pairwise.nil
  | k + 1 => by
    rw [colsTo, List.pairwise_append]
    refine ⟨colsTo_pw h q is k, ?_, fun x hx y hy => ?_⟩
    · split
      · exact colsFrom_pw _ _
      · exact List.Pairwise.nil
    · have h1 := ((colsTo_mem h q is k x).1 hx).2.1
      split at hy
      · have := (colsFrom_mem _ _ _).1 hy
        omega
      · cases hy
theorem colsTo_eq {c : List Df} (h : catMay c = true) (q : Qy) (is : Nat → Bool) : colsTo c q is (min q.occ.length 4) = colsIn c q is := by
  refine pw_ext (colsTo_pw h q is _) ((upto_pw 16).filter _) fun x => ?_
  change _ ↔ x ∈ colsIn c q is
  rw [colsTo_mem h, colsIn, List.mem_filter, upto_mem, isCol]
  simp only [Bool.and_eq_true, decide_eq_true_eq]
  constructor
  · rintro ⟨h1, h2, h3, h4⟩
    exact ⟨by omega, ⟨⟨⟨h1, by omega⟩, by omega⟩, h4⟩, h3⟩
  · rintro ⟨h1, ⟨⟨⟨h2, h3⟩, h4⟩, h5⟩, h6⟩
    exact ⟨h2, by omega, h6, h5⟩

end Go.Sim.Tryz
set_option linter.unusedSimpArgs false
set_option linter.unusedVariables false
namespace Go.Sim.Tryz
open Go Go.Sim

/-- A set, occurrence by occurrence. -/
def setTo (p : Nat → Bool) : Nat → Int
  | 0 => 0
  | k + 1 => setTo p k + (if p k then 2 ^ k else 0)
theorem setTo_four (p : Nat → Bool) : setTo p 4 = ofBits p := by
  simp only [setTo, ofBits, Int.zero_add]
  rfl
/-- No two are the same. -/
theorem long_nodup : ∀ {l m : List Int}, m.Nodup → (∀ x ∈ m, x ∈ l) → l.length ≤ m.length → l.Nodup
  | [], _, _, _, _ => List.nodup_nil
  | x :: l, m, hm, hs, hl => by
    rw [List.length_cons] at hl
    by_cases hx : x ∈ l
    · have := nodup_len hm (m := l) fun y hy => by
        rcases List.mem_cons.1 (hs y hy) with rfl | h
        · exact hx
        · exact h
      omega
    · rw [List.nodup_cons]
      refine ⟨hx, long_nodup (m := m.erase x) (hm.erase x) (fun y hy => ?_) ?_⟩
      · have hym := List.mem_of_mem_erase hy
        rcases List.mem_cons.1 (hs y hym) with rfl | h
        · exact absurd hy (List.Nodup.not_mem_erase hm)
        · exact h
      · by_cases hxm : x ∈ m
        · rw [List.length_erase_of_mem hxm]; omega
        · rw [List.erase_of_not_mem hxm]; omega
theorem once_iff (l : List Int) : decide ((uniq l).length = l.length) = decide l.Nodup := by
  rw [decide_eq_decide]
  constructor
  · intro h
    exact long_nodup (pw_nodup (uniq_pw l)) (fun x hx => (uniq_mem l x).1 hx) (by omega)
  · intro h
    exact Nat.le_antisymm (uniq_len l) (nodup_len h fun x hx => (uniq_mem l x).2 hx)
theorem colsIn_mem (c : List Df) (q : Qy) (x : Int) : (colsIn c q fun _ => true).contains x = isCol c q x := by
  rw [Bool.eq_iff_iff, List.contains_iff_mem, colsIn, List.mem_filter, upto_mem, Bool.and_true]
  constructor
  · exact fun h => h.2
  · intro h
    have := isCol_range h
    exact ⟨by omega, h⟩
theorem within_isCol (c : List Df) (q : Qy) (l : List Int) : within l (colsIn c q fun _ => true) = l.all (isCol c q) := by
  unfold within
  exact congrArg _ (funext fun x => colsIn_mem c q x)
/-- Each is found first where it is. -/
theorem place_iff (l : List Int) : (∀ (i : Nat) (h : i < l.length), idx (fun x => decide (l[i] = x)) l = i) ↔ l.Nodup := by
  rw [List.nodup_iff_pairwise_ne, List.pairwise_iff_getElem]
  constructor
  · intro h i j hi hj hij he
    have h1 := h i hi
    have h2 := h j hj
    rw [← he, h1] at h2
    omega
  · intro h i hi
    refine idx_hit (p := fun x => decide (l[i] = x)) hi (fun j hj hji => ?_) (by simp)
    rw [decide_eq_false_iff_not]
    exact fun e => h j i hj hi hji e.symm
end Go.Sim.Tryz
set_option linter.unusedSimpArgs false
set_option linter.unusedVariables false
set_option maxRecDepth 100000
namespace Go.Sim.Tryz
open Go Go.Sim
attribute [local push_cast] aops_cons aops_nil aopG_none aopG_some aopP_eq aopE_eq aopC_eq aopE?_eq aopC?_eq aopB_eq aopB?_eq abr anilq gopP_eq gopL_eq ahead_cons ahead_nil ahdG_none ahdG_some ahdP_eq ahdN_eq ahdC_eq ahdN?_eq ahdS_eq ahdS?_eq astoreN ahdC?_eq ghdP_eq ghdC_eq ghdC?_eq ghdZ_f ghdZ_t ahdI_eq ahdI?_eq ghdN?_eq aim_nil aim_cons isIn_nil isIn_none isIn_cons aimm aheP_eq aheA_eq aheC_eq aheC?_eq aheI?_eq aheA?_eq gheP_eq gheC_eq gheC?_eq gheZ_eq aheG_none aheG_some aheff_cons aheff_nil aapp gro_rsl gro_lit gro_esl opt_some opt_none no_eq acondT_true acondT_false acondT_lit aw_skip aw_region aw_regionD aw_seq aw_cond aw_block aw_loop aw_exit aw_label aw_ret thn_normal thn_exit thn_ret inb_normal inb_exit inb_ret qret_ret qret_normal gcond apure aeff anew acallee ares aresT aresL aresC ares1 qfin_eq ev ofV evL gokL tget tput_some tput_none initT abin aint aun aload afaddr aiaddr afield aindex aextract apick pickv_lit Bool.or_false Bool.false_or Bool.or_true Bool.true_or imp_self aslice chunk roomB abound aconv abuild afill splice alen aminmax abuiltin anil apart Value.oneCell' astore aappend srcEs abuildSlice asets isEq plus_obj plus_nxt plus_add plus_set plus_del IntKind.bits Option.map_some Option.map_none Option.bind_some Option.bind_none Option.join_some Option.getD_some Option.getD_none Option.toList Option.isSome_some List.getElem?_toArray List.getElem?_cons_zero List.getElem?_cons_succ List.getElem?_nil List.length_cons List.length_nil List.length_map List.head?_cons List.cons_append List.nil_append List.append_nil List.map_cons List.map_nil List.getD_cons_zero List.getD_cons_succ List.replicate_succ List.replicate_zero List.set_cons_zero List.set_cons_succ List.take_succ_cons List.take_zero List.drop_succ_cons List.drop_zero List.all_cons List.all_nil Nat.zero_add if_true if_false true_and and_true false_and and_false true_implies implies_true forall_const Bool.and_true Bool.true_and Bool.false_and Bool.and_false Bool.true_beq Bool.false_beq Bool.not_not beq_tt beq_ff Int.toNat_natCast decide_true decide_false Bool.not_true Bool.not_false Bool.true_eq_false Bool.false_eq_true false_implies exists_prop eq_self bne_self_eq_false beq_self_eq_true decide_eq_true_eq decide_eq_false_iff_not Bool.not_eq_true' Bool.not_eq_false' AV.int AV.bool AV.nilS ne_eq not_false_eq_true not_true_eq_false exists_eq_left exists_eq_left' Nat.lt_irrefl core_lit grd_lit acells_lit one_lit core_agg grd_agg acells_agg one_agg core_tup grd_tup acells_tup one_tup core_sl grd_sl acells_sl one_sl core_esl grd_esl acells_esl one_esl core_rsl grd_rsl acells_rsl one_rsl core_ptr grd_ptr acells_ptr one_ptr core_iptr grd_iptr acells_iptr one_iptr core_clo grd_clo acells_clo one_clo core_mp grd_mp acells_mp one_mp core_any grd_any acells_any one_any core_gv grd_gv fit_agg fit_lit fit_sl fit_esl fit_rsl fit_ptr fit_iptr fit_clo fit_mp retq_ret retq_normal set_nxt set_set plus_obj_set plus_set_set app_get0 app_get app_set0 app_set List.append_assoc List.length_append List.length_set Nat.lt_add_one Nat.add_lt_add_iff_right Nat.lt_add_right_iff_pos Nat.add_lt_add_iff_left List.mem_cons List.not_mem_nil or_false forall_eq forall_eq_or_imp lt_s0 lt_s1 lt_s2 lt_s3 lt_s4 lt_s5 lt_s6 lt_s7 lt_s8 pickv_t pickv_f or_nand or_nand2 imp_and_l SealT SealOs sealO_cells sl_lit sl_any sl_agg sl_tup sl_sl sl_rsl slO sl_esl sl_nil sl_eslesl sl_eslnil sl_rslrsl sl_eslrsl sl_nilrsl sl_ptr sl_iptr sl_ptri slP sl_clo sl_mp sl_gv sll_nil sll_cons slll_nil slll_cons shut_eq shutO Option.join_none Fn.func.injEq and_self sealL_self sealLL_self seal_self PureL PureLL Pure Nat.le_refl Nat.zero_le AV.lit.injEq Value.int.injEq Value.bool.injEq false_or or_true true_or Int.natCast_zero Int.ofNat_zero Int.cast_ofNat_Int Int.natCast_add Int.natCast_one Option.some.injEq piL_is sop_nil sop_cons sop_none sop_some sopO_some sop_new shut_pi shutL_nil shutL_cons exQ_exit exQ_ret exQ_normal Go.Sim.Tryz.ty_load1 Go.Sim.Tryz.ty_zero1 Go.Sim.Tryz.ty_load2 Go.Sim.Tryz.ty_zero2 Go.Sim.Tryz.ty_und2 Go.Sim.Tryz.ty_load3 Go.Sim.Tryz.ty_zero3 Go.Sim.Tryz.ty_und3 Go.Sim.Tryz.ty_load4 Go.Sim.Tryz.ty_zero4 Go.Sim.Tryz.ty_und4 Go.Sim.Tryz.ty_load5 Go.Sim.Tryz.ty_zero5 Go.Sim.Tryz.ty_und5 Go.Sim.Tryz.ty_load9 Go.Sim.Tryz.ty_zero9 Go.Sim.Tryz.ty_und9 Go.Sim.Tryz.ty_load22 Go.Sim.Tryz.ty_zero22 Go.Sim.Tryz.ty_el22 Go.Sim.Tryz.ty_zeroE22 Go.Sim.Tryz.ty_load24 Go.Sim.Tryz.ty_zero24 Go.Sim.Tryz.ty_fld24_0 Go.Sim.Tryz.ty_part24_0 Go.Sim.Tryz.ty_struct24 Go.Sim.Tryz.ty_load25 Go.Sim.Tryz.ty_zero25 Go.Sim.Tryz.ty_el25 Go.Sim.Tryz.ty_zeroE25 Go.Sim.Tryz.ty_load26 Go.Sim.Tryz.ty_zero26 Go.Sim.Tryz.ty_el26 Go.Sim.Tryz.ty_zeroE26 Go.Sim.Tryz.ty_load28 Go.Sim.Tryz.ty_zero28 Go.Sim.Tryz.ty_fld28_0 Go.Sim.Tryz.ty_part28_0 Go.Sim.Tryz.ty_fld28_1 Go.Sim.Tryz.ty_part28_1 Go.Sim.Tryz.ty_fld28_2 Go.Sim.Tryz.ty_part28_2 Go.Sim.Tryz.ty_fld28_3 Go.Sim.Tryz.ty_part28_3 Go.Sim.Tryz.ty_fld28_4 Go.Sim.Tryz.ty_part28_4 Go.Sim.Tryz.ty_fld28_5 Go.Sim.Tryz.ty_part28_5 Go.Sim.Tryz.ty_struct28 Go.Sim.Tryz.ty_load36 Go.Sim.Tryz.ty_zero36 Go.Sim.Tryz.ty_fld36_0 Go.Sim.Tryz.ty_part36_0 Go.Sim.Tryz.ty_fld36_1 Go.Sim.Tryz.ty_part36_1 Go.Sim.Tryz.ty_struct36 Go.Sim.Tryz.ty_load38 Go.Sim.Tryz.ty_zero38 Go.Sim.Tryz.ty_fld38_0 Go.Sim.Tryz.ty_part38_0 Go.Sim.Tryz.ty_fld38_1 Go.Sim.Tryz.ty_part38_1 Go.Sim.Tryz.ty_fld38_2 Go.Sim.Tryz.ty_part38_2 Go.Sim.Tryz.ty_fld38_3 Go.Sim.Tryz.ty_part38_3 Go.Sim.Tryz.ty_struct38 Go.Sim.Tryz.ty_load48 Go.Sim.Tryz.ty_zero48 Go.Sim.Tryz.ty_el48 Go.Sim.Tryz.ty_zeroE48 Go.Sim.Tryz.ty_load51 Go.Sim.Tryz.ty_zero51 Go.Sim.Tryz.ty_arr51 Go.Sim.Tryz.ty_part51_0 Go.Sim.Tryz.ty_part51_1 Go.Sim.Tryz.ty_struct51 Go.Sim.Tryz.ty_load59 Go.Sim.Tryz.ty_zero59 Go.Sim.Tryz.ty_fld59_0 Go.Sim.Tryz.ty_part59_0 Go.Sim.Tryz.ty_fld59_1 Go.Sim.Tryz.ty_part59_1 Go.Sim.Tryz.ty_struct59 Go.Sim.Tryz.ty_load60 Go.Sim.Tryz.ty_zero60 Go.Sim.Tryz.ty_el60 Go.Sim.Tryz.ty_zeroE60 Go.Sim.Tryz.ty_load62 Go.Sim.Tryz.ty_zero62 Go.Sim.Tryz.ty_fld62_0 Go.Sim.Tryz.ty_part62_0 Go.Sim.Tryz.ty_struct62 Go.Sim.Tryz.ty_load67 Go.Sim.Tryz.ty_zero67 Go.Sim.Tryz.ty_load68 Go.Sim.Tryz.ty_zero68 Go.Sim.Tryz.ty_load75 Go.Sim.Tryz.ty_zero75 Go.Sim.Tryz.ty_load76 Go.Sim.Tryz.ty_zero76 Go.Sim.Tryz.ty_und76 Go.Sim.Tryz.ty_load82 Go.Sim.Tryz.ty_zero82 Go.Sim.Tryz.ty_und82 Go.Sim.Tryz.ty_load85 Go.Sim.Tryz.ty_zero85 Go.Sim.Tryz.ty_und85 Go.Sim.Tryz.ty_load89 Go.Sim.Tryz.ty_zero89 Go.Sim.Tryz.ty_el89 Go.Sim.Tryz.ty_zeroE89 Go.Sim.Tryz.ty_load90 Go.Sim.Tryz.ty_zero90 Go.Sim.Tryz.ty_el90 Go.Sim.Tryz.ty_zeroE90 Go.Sim.Tryz.ty_load93 Go.Sim.Tryz.ty_zero93 Go.Sim.Tryz.ty_load98 Go.Sim.Tryz.ty_zero98 Go.Sim.Tryz.ty_fld98_0 Go.Sim.Tryz.ty_part98_0 Go.Sim.Tryz.ty_fld98_1 Go.Sim.Tryz.ty_part98_1 Go.Sim.Tryz.ty_fld98_2 Go.Sim.Tryz.ty_part98_2 Go.Sim.Tryz.ty_struct98 Go.Sim.Tryz.ty_load100 Go.Sim.Tryz.ty_zero100 Go.Sim.Tryz.ty_load106 Go.Sim.Tryz.ty_zero106 Go.Sim.Tryz.ty_load110 Go.Sim.Tryz.ty_zero110 Go.Sim.Tryz.ty_und110 Go.Sim.Tryz.ty_load118 Go.Sim.Tryz.ty_zero118 Go.Sim.Tryz.ty_und118 Go.Sim.Tryz.ty_load121 Go.Sim.Tryz.ty_zero121 Go.Sim.Tryz.ty_load128 Go.Sim.Tryz.ty_zero128 Go.Sim.Tryz.ty_und128 Go.Sim.Tryz.ty_load132 Go.Sim.Tryz.ty_zero132 encE_mk encE_take encE_len encV encE_one encEs_pure encE_pure

def encD (d : Df) : List AV := [.lit (.int .i64 d.cols), .lit (.int .i64 d.rows)]
theorem encD_len (d : Df) : (encD d).length = 2 := rfl
theorem encD_pure (d : Df) : PureL (encD d) := by simp [encD, PureL, Pure]
theorem encDs_pure (l : List Df) : PureLL (l.map encD) := by
  rw [pureLL_iff]
  simp only [List.mem_map]
  rintro _ ⟨x, _, rfl⟩
  exact encD_pure x
theorem encDs_get (l : List Df) (i : Nat) (h : i < l.length) : (l.map encD).getD i [] = encD l[i] := getD_map encD l [] i h
theorem cmpD (a b c d : Int) : CmpAt Go.Proofs.Tryz.prog 59 [.int .i64 a, .int .i64 b] [.int .i64 c, .int .i64 d] (decide (a = c) && decide (b = d)) := by
  rw [← Bool.and_true (decide (b = d))]
  exact cmp_int2 (f0 := { name := "Cols", type := 3, offset := 0, embedded := false, tag := "", pkgPath := "", byteOffset := 0 }) (f1 := { name := "Rows", type := 3, offset := 1, embedded := false, tag := "", pkgPath := "", byteOffset := 8 }) (n0 := 1) (n1 := 1) (by kernel_rfl) (by kernel_rfl) (by kernel_rfl) (by decide) (by decide) rfl rfl (by kernel_rfl) (by kernel_rfl) (by kernel_rfl) (by kernel_rfl) a b c d

def inI (n low high : Int) : Bool := decide (low ≤ n) && decide (n ≤ high)
theorem in_ok (n low high : Int) : Quiet Go.Proofs.Tryz.prog 70 [.int n, .int low, .int high] (.bool (inI n low high)) := by
  refine quiet_of (rs := #[.tmp 6]) Go.Proofs.Tryz.func70 rfl rfl rfl mixed rfl rfl fun H hs => ?_
  simp -implicitDefEqProofs only [push_cast, Nat.reduceAdd, Nat.reduceSub, Nat.reduceMul, Nat.reduceLT, Nat.reduceLeDiff, Nat.reduceEqDiff, Nat.reduceBEq, reduceCtorEq, reduceIte, Int.reduceLE, Int.reduceLT, Int.reduceNeg, Int.reduceToNat]
  (try simp -implicitDefEqProofs only [push_cast, Nat.reduceAdd, Nat.reduceSub, Nat.reduceMul, Nat.reduceLT, Nat.reduceLeDiff, Nat.reduceEqDiff, Nat.reduceBEq, reduceCtorEq, reduceIte, Int.reduceLE, Int.reduceLT, Int.reduceNeg, Int.reduceToNat])
  simp only [inI]
theorem one_ok (d : Df) : Quiet Go.Proofs.Tryz.prog 83 [.agg (encD d)] (.bool d.may) := by
  refine quiet_of (rs := #[.tmp 2]) Go.Proofs.Tryz.func83 rfl rfl rfl mixed rfl rfl fun H hs => ?_
  simp -implicitDefEqProofs only [push_cast, Nat.reduceAdd, Nat.reduceSub, Nat.reduceMul, Nat.reduceLT, Nat.reduceLeDiff, Nat.reduceEqDiff, Nat.reduceBEq, reduceCtorEq, reduceIte, Int.reduceLE, Int.reduceLT, Int.reduceNeg, Int.reduceToNat, encD, lits, cellsEq, cellEq, cmpD]
  refine gcallq' (.bool (inI d.cols 1 4)) (fun h => by simp only [Bool.not_eq_true'] at h; exact h) (fun _ => in_ok _ _ _) ?_
  simp -implicitDefEqProofs only [push_cast, Nat.reduceAdd, Nat.reduceSub, Nat.reduceMul, Nat.reduceLT, Nat.reduceLeDiff, Nat.reduceEqDiff, Nat.reduceBEq, reduceCtorEq, reduceIte, Int.reduceLE, Int.reduceLT, Int.reduceNeg, Int.reduceToNat, encD]
  refine gcallq' (.bool (inI d.rows 1 1000000)) (fun h => by simpa using h) (fun _ => in_ok _ _ _) ?_
  simp -implicitDefEqProofs only [push_cast, Nat.reduceAdd, Nat.reduceSub, Nat.reduceMul, Nat.reduceLT, Nat.reduceLeDiff, Nat.reduceEqDiff, Nat.reduceBEq, reduceCtorEq, reduceIte, Int.reduceLE, Int.reduceLT, Int.reduceNeg, Int.reduceToNat, encD]
  (try simp -implicitDefEqProofs only [push_cast, Nat.reduceAdd, Nat.reduceSub, Nat.reduceMul, Nat.reduceLT, Nat.reduceLeDiff, Nat.reduceEqDiff, Nat.reduceBEq, reduceCtorEq, reduceIte, Int.reduceLE, Int.reduceLT, Int.reduceNeg, Int.reduceToNat])
  simp only [inI, Df.may]
  grind
theorem indexFuncD_ok (l : List Df) (hl : l.length ≤ 140737488355328) (k : Nat) (caps : List AV) (hc : PureL caps) (p : Df → Bool) (hp : ∀ v ∈ l, Quiet Go.Proofs.Tryz.prog k (.agg (encD v) :: caps) (.bool (p v))) :
    Quiet Go.Proofs.Tryz.prog 96 [.sl (l.map encD), .clo (.func k) [] caps] (.int (idx p l)) := by
  refine quiet_of (rs := #[.tmp 4]) Go.Proofs.Tryz.func96 rfl rfl rfl mixed rfl rfl fun H hs => ?_
  simp -implicitDefEqProofs only [push_cast, Nat.reduceAdd, Nat.reduceSub, Nat.reduceMul, Nat.reduceLT, Nat.reduceLeDiff, Nat.reduceEqDiff, Nat.reduceBEq, reduceCtorEq, reduceIte, Int.reduceLE, Int.reduceLT, Int.reduceNeg, Int.reduceToNat]
  refine loop_rule hs (σ := Nat) (fun i => i ≤ l.length ∧ ∀ (j : Nat) (h : j < l.length), j < i → p l[j] = false) (fun i => l.length - i)
    (fun i => [(0, .sl (l.map encD)), (1, .clo (.func k) [] caps), (7, .int l.length), (8, .int i)]) (fun _ => []) 0 ⟨by omega, fun j _ h => by omega⟩ ?_ ?_ ?_
  · (try simp -implicitDefEqProofs only [push_cast, Nat.reduceAdd, Nat.reduceSub, Nat.reduceMul, Nat.reduceLT, Nat.reduceLeDiff, Nat.reduceEqDiff, Nat.reduceBEq, reduceCtorEq, reduceIte, Int.reduceLE, Int.reduceLT, Int.reduceNeg, Int.reduceToNat, encDs_pure, hc])
  · (try simp -implicitDefEqProofs only [push_cast, Nat.reduceAdd, Nat.reduceSub, Nat.reduceMul, Nat.reduceLT, Nat.reduceLeDiff, Nat.reduceEqDiff, Nat.reduceBEq, reduceCtorEq, reduceIte, Int.reduceLE, Int.reduceLT, Int.reduceNeg, Int.reduceToNat])
  · rintro i ⟨h2, h3⟩
    by_cases hi : i < l.length
    · have hi' : ((i : Int) < (l.length : Int)) = True := by simp; omega
      have hi0 : (0 ≤ (i : Int)) = True := by simp
      simp -implicitDefEqProofs only [push_cast, Nat.reduceAdd, Nat.reduceSub, Nat.reduceMul, Nat.reduceLT, Nat.reduceLeDiff, Nat.reduceEqDiff, Nat.reduceBEq, reduceCtorEq, reduceIte, Int.reduceLE, Int.reduceLT, Int.reduceNeg, Int.reduceToNat, hi', hi0, encDs_get l i hi, encD_len]
      refine callq (hp l[i] (List.getElem_mem hi)) ?_
      simp -implicitDefEqProofs only [push_cast, Nat.reduceAdd, Nat.reduceSub, Nat.reduceMul, Nat.reduceLT, Nat.reduceLeDiff, Nat.reduceEqDiff, Nat.reduceBEq, reduceCtorEq, reduceIte, Int.reduceLE, Int.reduceLT, Int.reduceNeg, Int.reduceToNat]
      refine ⟨fun h => ?_, fun h => ?_⟩
      · (try simp -implicitDefEqProofs only [push_cast, Nat.reduceAdd, Nat.reduceSub, Nat.reduceMul, Nat.reduceLT, Nat.reduceLeDiff, Nat.reduceEqDiff, Nat.reduceBEq, reduceCtorEq, reduceIte, Int.reduceLE, Int.reduceLT, Int.reduceNeg, Int.reduceToNat])
        exact (idx_hit hi h3 h).symm
      · rw [wrap64 (n := (i : Int) + 1) (by omega) (by omega)]
        refine next_intro (i + 1) ⟨by omega, fun j hj hji => ?_⟩ (by omega) ?_ ?_
        · rcases Nat.lt_or_ge j i with h4 | h4
          · exact h3 j hj h4
          · obtain rfl : j = i := by omega
            exact h
        · (try simp -implicitDefEqProofs only [push_cast, Nat.reduceAdd, Nat.reduceSub, Nat.reduceMul, Nat.reduceLT, Nat.reduceLeDiff, Nat.reduceEqDiff, Nat.reduceBEq, reduceCtorEq, reduceIte, Int.reduceLE, Int.reduceLT, Int.reduceNeg, Int.reduceToNat, encDs_pure, hc])
        · (try simp -implicitDefEqProofs only [push_cast, Nat.reduceAdd, Nat.reduceSub, Nat.reduceMul, Nat.reduceLT, Nat.reduceLeDiff, Nat.reduceEqDiff, Nat.reduceBEq, reduceCtorEq, reduceIte, Int.reduceLE, Int.reduceLT, Int.reduceNeg, Int.reduceToNat])
    · have hi' : ((i : Int) < (l.length : Int)) = False := by simp; omega
      simp -implicitDefEqProofs only [push_cast, Nat.reduceAdd, Nat.reduceSub, Nat.reduceMul, Nat.reduceLT, Nat.reduceLeDiff, Nat.reduceEqDiff, Nat.reduceBEq, reduceCtorEq, reduceIte, Int.reduceLE, Int.reduceLT, Int.reduceNeg, Int.reduceToNat, hi']
      (try simp -implicitDefEqProofs only [push_cast, Nat.reduceAdd, Nat.reduceSub, Nat.reduceMul, Nat.reduceLT, Nat.reduceLeDiff, Nat.reduceEqDiff, Nat.reduceBEq, reduceCtorEq, reduceIte, Int.reduceLE, Int.reduceLT, Int.reduceNeg, Int.reduceToNat])
      exact (idx_miss fun j hj => h3 j hj (by omega)).symm
theorem containsFuncD_ok (l : List Df) (hl : l.length ≤ 140737488355328) (k : Nat) (caps : List AV) (hc : PureL caps) (p : Df → Bool) (hp : ∀ v ∈ l, Quiet Go.Proofs.Tryz.prog k (.agg (encD v) :: caps) (.bool (p v))) :
    Quiet Go.Proofs.Tryz.prog 81 [.sl (l.map encD), .clo (.func k) [] caps] (.bool (l.any p)) := by
  refine quiet_of (rs := #[.tmp 4]) Go.Proofs.Tryz.func81 rfl rfl rfl mixed rfl rfl fun H hs => ?_
  simp -implicitDefEqProofs only [push_cast, Nat.reduceAdd, Nat.reduceSub, Nat.reduceMul, Nat.reduceLT, Nat.reduceLeDiff, Nat.reduceEqDiff, Nat.reduceBEq, reduceCtorEq, reduceIte, Int.reduceLE, Int.reduceLT, Int.reduceNeg, Int.reduceToNat]
  refine callq (indexFuncD_ok l hl k caps hc p hp) ?_
  simp -implicitDefEqProofs only [push_cast, Nat.reduceAdd, Nat.reduceSub, Nat.reduceMul, Nat.reduceLT, Nat.reduceLeDiff, Nat.reduceEqDiff, Nat.reduceBEq, reduceCtorEq, reduceIte, Int.reduceLE, Int.reduceLT, Int.reduceNeg, Int.reduceToNat, idx_nonneg]
  (try simp -implicitDefEqProofs only [push_cast, Nat.reduceAdd, Nat.reduceSub, Nat.reduceMul, Nat.reduceLT, Nat.reduceLeDiff, Nat.reduceEqDiff, Nat.reduceBEq, reduceCtorEq, reduceIte, Int.reduceLE, Int.reduceLT, Int.reduceNeg, Int.reduceToNat])
theorem indexFuncI_ok (l : List Int) (hl : l.length ≤ 140737488355328) (k : Nat) (caps : List AV) (hc : PureL caps) (p : Int → Bool) (hp : ∀ v ∈ l, Quiet Go.Proofs.Tryz.prog k (.int v :: caps) (.bool (p v))) :
    Quiet Go.Proofs.Tryz.prog 84 [.sl (l.map encI), .clo (.func k) [] caps] (.int (idx p l)) := by
  refine quiet_of (rs := #[.tmp 4]) Go.Proofs.Tryz.func84 rfl rfl rfl mixed rfl rfl fun H hs => ?_
  simp -implicitDefEqProofs only [push_cast, Nat.reduceAdd, Nat.reduceSub, Nat.reduceMul, Nat.reduceLT, Nat.reduceLeDiff, Nat.reduceEqDiff, Nat.reduceBEq, reduceCtorEq, reduceIte, Int.reduceLE, Int.reduceLT, Int.reduceNeg, Int.reduceToNat]
  refine loop_rule hs (σ := Nat) (fun i => i ≤ l.length ∧ ∀ (j : Nat) (h : j < l.length), j < i → p l[j] = false) (fun i => l.length - i)
    (fun i => [(0, .sl (l.map encI)), (1, .clo (.func k) [] caps), (7, .int l.length), (8, .int i)]) (fun _ => []) 0 ⟨by omega, fun j _ h => by omega⟩ ?_ ?_ ?_
  · (try simp -implicitDefEqProofs only [push_cast, Nat.reduceAdd, Nat.reduceSub, Nat.reduceMul, Nat.reduceLT, Nat.reduceLeDiff, Nat.reduceEqDiff, Nat.reduceBEq, reduceCtorEq, reduceIte, Int.reduceLE, Int.reduceLT, Int.reduceNeg, Int.reduceToNat, encIs_pure, hc])
  · (try simp -implicitDefEqProofs only [push_cast, Nat.reduceAdd, Nat.reduceSub, Nat.reduceMul, Nat.reduceLT, Nat.reduceLeDiff, Nat.reduceEqDiff, Nat.reduceBEq, reduceCtorEq, reduceIte, Int.reduceLE, Int.reduceLT, Int.reduceNeg, Int.reduceToNat])
  · rintro i ⟨h2, h3⟩
    by_cases hi : i < l.length
    · have hi' : ((i : Int) < (l.length : Int)) = True := by simp; omega
      have hi0 : (0 ≤ (i : Int)) = True := by simp
      simp -implicitDefEqProofs only [push_cast, Nat.reduceAdd, Nat.reduceSub, Nat.reduceMul, Nat.reduceLT, Nat.reduceLeDiff, Nat.reduceEqDiff, Nat.reduceBEq, reduceCtorEq, reduceIte, Int.reduceLE, Int.reduceLT, Int.reduceNeg, Int.reduceToNat, hi', hi0, encIs_get l i hi, encI]
      refine callq (hp l[i] (List.getElem_mem hi)) ?_
      simp -implicitDefEqProofs only [push_cast, Nat.reduceAdd, Nat.reduceSub, Nat.reduceMul, Nat.reduceLT, Nat.reduceLeDiff, Nat.reduceEqDiff, Nat.reduceBEq, reduceCtorEq, reduceIte, Int.reduceLE, Int.reduceLT, Int.reduceNeg, Int.reduceToNat]
      refine ⟨fun h => ?_, fun h => ?_⟩
      · (try simp -implicitDefEqProofs only [push_cast, Nat.reduceAdd, Nat.reduceSub, Nat.reduceMul, Nat.reduceLT, Nat.reduceLeDiff, Nat.reduceEqDiff, Nat.reduceBEq, reduceCtorEq, reduceIte, Int.reduceLE, Int.reduceLT, Int.reduceNeg, Int.reduceToNat])
        exact (idx_hit hi h3 h).symm
      · rw [wrap64 (n := (i : Int) + 1) (by omega) (by omega)]
        refine next_intro (i + 1) ⟨by omega, fun j hj hji => ?_⟩ (by omega) ?_ ?_
        · rcases Nat.lt_or_ge j i with h4 | h4
          · exact h3 j hj h4
          · obtain rfl : j = i := by omega
            exact h
        · (try simp -implicitDefEqProofs only [push_cast, Nat.reduceAdd, Nat.reduceSub, Nat.reduceMul, Nat.reduceLT, Nat.reduceLeDiff, Nat.reduceEqDiff, Nat.reduceBEq, reduceCtorEq, reduceIte, Int.reduceLE, Int.reduceLT, Int.reduceNeg, Int.reduceToNat, encIs_pure, hc])
        · (try simp -implicitDefEqProofs only [push_cast, Nat.reduceAdd, Nat.reduceSub, Nat.reduceMul, Nat.reduceLT, Nat.reduceLeDiff, Nat.reduceEqDiff, Nat.reduceBEq, reduceCtorEq, reduceIte, Int.reduceLE, Int.reduceLT, Int.reduceNeg, Int.reduceToNat])
    · have hi' : ((i : Int) < (l.length : Int)) = False := by simp; omega
      simp -implicitDefEqProofs only [push_cast, Nat.reduceAdd, Nat.reduceSub, Nat.reduceMul, Nat.reduceLT, Nat.reduceLeDiff, Nat.reduceEqDiff, Nat.reduceBEq, reduceCtorEq, reduceIte, Int.reduceLE, Int.reduceLT, Int.reduceNeg, Int.reduceToNat, hi']
      (try simp -implicitDefEqProofs only [push_cast, Nat.reduceAdd, Nat.reduceSub, Nat.reduceMul, Nat.reduceLT, Nat.reduceLeDiff, Nat.reduceEqDiff, Nat.reduceBEq, reduceCtorEq, reduceIte, Int.reduceLE, Int.reduceLT, Int.reduceNeg, Int.reduceToNat])
      exact (idx_miss fun j hj => h3 j hj (by omega)).symm
theorem containsFuncI_ok (l : List Int) (hl : l.length ≤ 140737488355328) (k : Nat) (caps : List AV) (hc : PureL caps) (p : Int → Bool) (hp : ∀ v ∈ l, Quiet Go.Proofs.Tryz.prog k (.int v :: caps) (.bool (p v))) :
    Quiet Go.Proofs.Tryz.prog 53 [.sl (l.map encI), .clo (.func k) [] caps] (.bool (l.any p)) := by
  refine quiet_of (rs := #[.tmp 4]) Go.Proofs.Tryz.func53 rfl rfl rfl mixed rfl rfl fun H hs => ?_
  simp -implicitDefEqProofs only [push_cast, Nat.reduceAdd, Nat.reduceSub, Nat.reduceMul, Nat.reduceLT, Nat.reduceLeDiff, Nat.reduceEqDiff, Nat.reduceBEq, reduceCtorEq, reduceIte, Int.reduceLE, Int.reduceLT, Int.reduceNeg, Int.reduceToNat]
  refine callq (indexFuncI_ok l hl k caps hc p hp) ?_
  simp -implicitDefEqProofs only [push_cast, Nat.reduceAdd, Nat.reduceSub, Nat.reduceMul, Nat.reduceLT, Nat.reduceLeDiff, Nat.reduceEqDiff, Nat.reduceBEq, reduceCtorEq, reduceIte, Int.reduceLE, Int.reduceLT, Int.reduceNeg, Int.reduceToNat, idx_nonneg]
  (try simp -implicitDefEqProofs only [push_cast, Nat.reduceAdd, Nat.reduceSub, Nat.reduceMul, Nat.reduceLT, Nat.reduceLeDiff, Nat.reduceEqDiff, Nat.reduceBEq, reduceCtorEq, reduceIte, Int.reduceLE, Int.reduceLT, Int.reduceNeg, Int.reduceToNat])

theorem May1_ok (d : Df) : Quiet Go.Proofs.Tryz.prog 82 [.agg (encD d)] (.bool (!d.may)) := by
  refine quiet_of (rs := #[.tmp 2]) Go.Proofs.Tryz.func82 rfl rfl rfl mixed rfl rfl fun H hs => ?_
  simp -implicitDefEqProofs only [push_cast, Nat.reduceAdd, Nat.reduceSub, Nat.reduceMul, Nat.reduceLT, Nat.reduceLeDiff, Nat.reduceEqDiff, Nat.reduceBEq, reduceCtorEq, reduceIte, Int.reduceLE, Int.reduceLT, Int.reduceNeg, Int.reduceToNat, encD]
  refine callq (one_ok d) ?_
  simp -implicitDefEqProofs only [push_cast, Nat.reduceAdd, Nat.reduceSub, Nat.reduceMul, Nat.reduceLT, Nat.reduceLeDiff, Nat.reduceEqDiff, Nat.reduceBEq, reduceCtorEq, reduceIte, Int.reduceLE, Int.reduceLT, Int.reduceNeg, Int.reduceToNat]
  (try simp -implicitDefEqProofs only [push_cast, Nat.reduceAdd, Nat.reduceSub, Nat.reduceMul, Nat.reduceLT, Nat.reduceLeDiff, Nat.reduceEqDiff, Nat.reduceBEq, reduceCtorEq, reduceIte, Int.reduceLE, Int.reduceLT, Int.reduceNeg, Int.reduceToNat])
theorem dataMay_ok (c : List Df) (hc : c.length ≤ 1000000) : Quiet Go.Proofs.Tryz.prog 52 [.agg [.sl (c.map encD)]] (.bool (catMay c)) := by
  refine quiet_of (rs := #[.tmp 2]) Go.Proofs.Tryz.func52 rfl rfl rfl mixed rfl rfl fun H hs => ?_
  simp -implicitDefEqProofs only [push_cast, Nat.reduceAdd, Nat.reduceSub, Nat.reduceMul, Nat.reduceLT, Nat.reduceLeDiff, Nat.reduceEqDiff, Nat.reduceBEq, reduceCtorEq, reduceIte, Int.reduceLE, Int.reduceLT, Int.reduceNeg, Int.reduceToNat]
  refine callq (in_ok _ _ _) ?_
  simp -implicitDefEqProofs only [push_cast, Nat.reduceAdd, Nat.reduceSub, Nat.reduceMul, Nat.reduceLT, Nat.reduceLeDiff, Nat.reduceEqDiff, Nat.reduceBEq, reduceCtorEq, reduceIte, Int.reduceLE, Int.reduceLT, Int.reduceNeg, Int.reduceToNat]
  refine gcallq' (.bool (c.any fun d => !d.may)) (fun h => h) (fun _ => containsFuncD_ok c (by omega) _ [] trivial (fun d => !d.may) fun d _ => May1_ok d) ?_
  simp -implicitDefEqProofs only [push_cast, Nat.reduceAdd, Nat.reduceSub, Nat.reduceMul, Nat.reduceLT, Nat.reduceLeDiff, Nat.reduceEqDiff, Nat.reduceBEq, reduceCtorEq, reduceIte, Int.reduceLE, Int.reduceLT, Int.reduceNeg, Int.reduceToNat]
  (try simp -implicitDefEqProofs only [push_cast, Nat.reduceAdd, Nat.reduceSub, Nat.reduceMul, Nat.reduceLT, Nat.reduceLeDiff, Nat.reduceEqDiff, Nat.reduceBEq, reduceCtorEq, reduceIte, Int.reduceLE, Int.reduceLT, Int.reduceNeg, Int.reduceToNat])
  unfold catMay inI
  rw [List.all_eq_not_any_not]
  have e1 : decide ((1 : Int) ≤ (c.length : Int)) = decide (1 ≤ c.length) := by rw [decide_eq_decide]; omega
  have e2 : decide ((c.length : Int) ≤ 4) = decide (c.length ≤ 4) := by rw [decide_eq_decide]; omega
  rw [e1, e2]
theorem Col_ok (o i : Int) (h0 : 0 ≤ o) (h1 : o ≤ 3) (h2 : 0 ≤ i) (h3 : i ≤ 3) : Quiet Go.Proofs.Tryz.prog 85 [.int o, .int i] (.int (4 * o + i)) := by
  refine quiet_of (rs := #[.tmp 4]) Go.Proofs.Tryz.func85 rfl rfl rfl mixed rfl rfl fun H hs => ?_
  simp -implicitDefEqProofs only [push_cast, Nat.reduceAdd, Nat.reduceSub, Nat.reduceMul, Nat.reduceLT, Nat.reduceLeDiff, Nat.reduceEqDiff, Nat.reduceBEq, reduceCtorEq, reduceIte, Int.reduceLE, Int.reduceLT, Int.reduceNeg, Int.reduceToNat]
  refine callq (in_ok _ _ _) ?_
  simp -implicitDefEqProofs only [push_cast, Nat.reduceAdd, Nat.reduceSub, Nat.reduceMul, Nat.reduceLT, Nat.reduceLeDiff, Nat.reduceEqDiff, Nat.reduceBEq, reduceCtorEq, reduceIte, Int.reduceLE, Int.reduceLT, Int.reduceNeg, Int.reduceToNat]
  refine gcallq' (.bool (inI i 0 3)) (fun h => h) (fun _ => in_ok _ _ _) ?_
  simp -implicitDefEqProofs only [push_cast, Nat.reduceAdd, Nat.reduceSub, Nat.reduceMul, Nat.reduceLT, Nat.reduceLeDiff, Nat.reduceEqDiff, Nat.reduceBEq, reduceCtorEq, reduceIte, Int.reduceLE, Int.reduceLT, Int.reduceNeg, Int.reduceToNat]
  have a1 : inI o 0 3 = true := by simp [inI, h0, h1]
  have a2 : inI i 0 3 = true := by simp [inI, h2, h3]
  rw [a1, a2]
  refine ⟨fun h => absurd h (by decide), fun _ => ?_⟩
  simp only [IntKind.wrap_i64]
  omega
theorem Split_ok (c : Int) (h0 : 0 ≤ c) (h1 : c ≤ 15) : Quiet Go.Proofs.Tryz.prog 24 [.int c] (.tup [.int (c / 4), .int (c % 4), .bool true]) := by
  refine quiet_of (rs := #[.tmp 2, .tmp 3, .tmp 4]) Go.Proofs.Tryz.func24 rfl rfl rfl mixed rfl rfl fun H hs => ?_
  simp -implicitDefEqProofs only [push_cast, Nat.reduceAdd, Nat.reduceSub, Nat.reduceMul, Nat.reduceLT, Nat.reduceLeDiff, Nat.reduceEqDiff, Nat.reduceBEq, reduceCtorEq, reduceIte, Int.reduceLE, Int.reduceLT, Int.reduceNeg, Int.reduceToNat]
  refine callq (in_ok _ _ _) ?_
  simp -implicitDefEqProofs only [push_cast, Nat.reduceAdd, Nat.reduceSub, Nat.reduceMul, Nat.reduceLT, Nat.reduceLeDiff, Nat.reduceEqDiff, Nat.reduceBEq, reduceCtorEq, reduceIte, Int.reduceLE, Int.reduceLT, Int.reduceNeg, Int.reduceToNat]
  have a1 : inI c 0 15 = true := by simp [inI, h0, h1]
  rw [a1]
  refine ⟨fun h => absurd h (by decide), fun _ => ⟨by decide, by decide, ?_, ?_⟩⟩
  · rw [Int.tdiv_eq_ediv_of_nonneg h0, IntKind.wrap_i64]
    omega
  · rw [Int.tmod_eq_emod_of_nonneg h0]
theorem setHolds_ok (s t : Int) (h0 : 0 ≤ t) (h1 : t ≤ 15) : Quiet Go.Proofs.Tryz.prog 60 [.int s, .int t] (.bool (holdsI s t)) := by
  refine quiet_of (rs := #[.tmp 4]) Go.Proofs.Tryz.func60 rfl rfl rfl mixed rfl rfl fun H hs => ?_
  simp -implicitDefEqProofs only [push_cast, Nat.reduceAdd, Nat.reduceSub, Nat.reduceMul, Nat.reduceLT, Nat.reduceLeDiff, Nat.reduceEqDiff, Nat.reduceBEq, reduceCtorEq, reduceIte, Int.reduceLE, Int.reduceLT, Int.reduceNeg, Int.reduceToNat]
  exact holds_bit s t h0 h1

end Go.Sim.Tryz
set_option linter.unusedSimpArgs false
set_option linter.unusedVariables false
set_option maxRecDepth 100000
namespace Go.Sim.Tryz
open Go Go.Sim
attribute [local push_cast] aops_cons aops_nil aopG_none aopG_some aopP_eq aopE_eq aopC_eq aopE?_eq aopC?_eq aopB_eq aopB?_eq abr anilq gopP_eq gopL_eq ahead_cons ahead_nil ahdG_none ahdG_some ahdP_eq ahdN_eq ahdC_eq ahdN?_eq ahdS_eq ahdS?_eq astoreN ahdC?_eq ghdP_eq ghdC_eq ghdC?_eq ghdZ_f ghdZ_t ahdI_eq ahdI?_eq ghdN?_eq aim_nil aim_cons isIn_nil isIn_none isIn_cons aimm aheP_eq aheA_eq aheC_eq aheC?_eq aheI?_eq aheA?_eq gheP_eq gheC_eq gheC?_eq gheZ_eq aheG_none aheG_some aheff_cons aheff_nil aapp gro_rsl gro_lit gro_esl opt_some opt_none no_eq acondT_true acondT_false acondT_lit aw_skip aw_region aw_regionD aw_seq aw_cond aw_block aw_loop aw_exit aw_label aw_ret thn_normal thn_exit thn_ret inb_normal inb_exit inb_ret qret_ret qret_normal gcond apure aeff anew acallee ares aresT aresL aresC ares1 qfin_eq ev ofV evL gokL tget tput_some tput_none initT abin aint aun aload afaddr aiaddr afield aindex aextract apick pickv_lit Bool.or_false Bool.false_or Bool.or_true Bool.true_or imp_self aslice chunk roomB abound aconv abuild afill splice alen aminmax abuiltin anil apart Value.oneCell' astore aappend srcEs abuildSlice asets isEq plus_obj plus_nxt plus_add plus_set plus_del IntKind.bits Option.map_some Option.map_none Option.bind_some Option.bind_none Option.join_some Option.getD_some Option.getD_none Option.toList Option.isSome_some List.getElem?_toArray List.getElem?_cons_zero List.getElem?_cons_succ List.getElem?_nil List.length_cons List.length_nil List.length_map List.head?_cons List.cons_append List.nil_append List.append_nil List.map_cons List.map_nil List.getD_cons_zero List.getD_cons_succ List.replicate_succ List.replicate_zero List.set_cons_zero List.set_cons_succ List.take_succ_cons List.take_zero List.drop_succ_cons List.drop_zero List.all_cons List.all_nil Nat.zero_add if_true if_false true_and and_true false_and and_false true_implies implies_true forall_const Bool.and_true Bool.true_and Bool.false_and Bool.and_false Bool.true_beq Bool.false_beq Bool.not_not beq_tt beq_ff Int.toNat_natCast decide_true decide_false Bool.not_true Bool.not_false Bool.true_eq_false Bool.false_eq_true false_implies exists_prop eq_self bne_self_eq_false beq_self_eq_true decide_eq_true_eq decide_eq_false_iff_not Bool.not_eq_true' Bool.not_eq_false' AV.int AV.bool AV.nilS ne_eq not_false_eq_true not_true_eq_false exists_eq_left exists_eq_left' Nat.lt_irrefl core_lit grd_lit acells_lit one_lit core_agg grd_agg acells_agg one_agg core_tup grd_tup acells_tup one_tup core_sl grd_sl acells_sl one_sl core_esl grd_esl acells_esl one_esl core_rsl grd_rsl acells_rsl one_rsl core_ptr grd_ptr acells_ptr one_ptr core_iptr grd_iptr acells_iptr one_iptr core_clo grd_clo acells_clo one_clo core_mp grd_mp acells_mp one_mp core_any grd_any acells_any one_any core_gv grd_gv fit_agg fit_lit fit_sl fit_esl fit_rsl fit_ptr fit_iptr fit_clo fit_mp retq_ret retq_normal set_nxt set_set plus_obj_set plus_set_set app_get0 app_get app_set0 app_set List.append_assoc List.length_append List.length_set Nat.lt_add_one Nat.add_lt_add_iff_right Nat.lt_add_right_iff_pos Nat.add_lt_add_iff_left List.mem_cons List.not_mem_nil or_false forall_eq forall_eq_or_imp lt_s0 lt_s1 lt_s2 lt_s3 lt_s4 lt_s5 lt_s6 lt_s7 lt_s8 pickv_t pickv_f or_nand or_nand2 imp_and_l SealT SealOs sealO_cells sl_lit sl_any sl_agg sl_tup sl_sl sl_rsl slO sl_esl sl_nil sl_eslesl sl_eslnil sl_rslrsl sl_eslrsl sl_nilrsl sl_ptr sl_iptr sl_ptri slP sl_clo sl_mp sl_gv sll_nil sll_cons slll_nil slll_cons shut_eq shutO Option.join_none Fn.func.injEq and_self sealL_self sealLL_self seal_self PureL PureLL Pure Nat.le_refl Nat.zero_le AV.lit.injEq Value.int.injEq Value.bool.injEq false_or or_true true_or Int.natCast_zero Int.ofNat_zero Int.cast_ofNat_Int Int.natCast_add Int.natCast_one Option.some.injEq piL_is sop_nil sop_cons sop_none sop_some sopO_some sop_new shut_pi shutL_nil shutL_cons exQ_exit exQ_ret exQ_normal Go.Sim.Tryz.ty_load1 Go.Sim.Tryz.ty_zero1 Go.Sim.Tryz.ty_load2 Go.Sim.Tryz.ty_zero2 Go.Sim.Tryz.ty_und2 Go.Sim.Tryz.ty_load3 Go.Sim.Tryz.ty_zero3 Go.Sim.Tryz.ty_und3 Go.Sim.Tryz.ty_load4 Go.Sim.Tryz.ty_zero4 Go.Sim.Tryz.ty_und4 Go.Sim.Tryz.ty_load5 Go.Sim.Tryz.ty_zero5 Go.Sim.Tryz.ty_und5 Go.Sim.Tryz.ty_load9 Go.Sim.Tryz.ty_zero9 Go.Sim.Tryz.ty_und9 Go.Sim.Tryz.ty_load22 Go.Sim.Tryz.ty_zero22 Go.Sim.Tryz.ty_el22 Go.Sim.Tryz.ty_zeroE22 Go.Sim.Tryz.ty_load24 Go.Sim.Tryz.ty_zero24 Go.Sim.Tryz.ty_fld24_0 Go.Sim.Tryz.ty_part24_0 Go.Sim.Tryz.ty_struct24 Go.Sim.Tryz.ty_load25 Go.Sim.Tryz.ty_zero25 Go.Sim.Tryz.ty_el25 Go.Sim.Tryz.ty_zeroE25 Go.Sim.Tryz.ty_load26 Go.Sim.Tryz.ty_zero26 Go.Sim.Tryz.ty_el26 Go.Sim.Tryz.ty_zeroE26 Go.Sim.Tryz.ty_load28 Go.Sim.Tryz.ty_zero28 Go.Sim.Tryz.ty_fld28_0 Go.Sim.Tryz.ty_part28_0 Go.Sim.Tryz.ty_fld28_1 Go.Sim.Tryz.ty_part28_1 Go.Sim.Tryz.ty_fld28_2 Go.Sim.Tryz.ty_part28_2 Go.Sim.Tryz.ty_fld28_3 Go.Sim.Tryz.ty_part28_3 Go.Sim.Tryz.ty_fld28_4 Go.Sim.Tryz.ty_part28_4 Go.Sim.Tryz.ty_fld28_5 Go.Sim.Tryz.ty_part28_5 Go.Sim.Tryz.ty_struct28 Go.Sim.Tryz.ty_load36 Go.Sim.Tryz.ty_zero36 Go.Sim.Tryz.ty_fld36_0 Go.Sim.Tryz.ty_part36_0 Go.Sim.Tryz.ty_fld36_1 Go.Sim.Tryz.ty_part36_1 Go.Sim.Tryz.ty_struct36 Go.Sim.Tryz.ty_load38 Go.Sim.Tryz.ty_zero38 Go.Sim.Tryz.ty_fld38_0 Go.Sim.Tryz.ty_part38_0 Go.Sim.Tryz.ty_fld38_1 Go.Sim.Tryz.ty_part38_1 Go.Sim.Tryz.ty_fld38_2 Go.Sim.Tryz.ty_part38_2 Go.Sim.Tryz.ty_fld38_3 Go.Sim.Tryz.ty_part38_3 Go.Sim.Tryz.ty_struct38 Go.Sim.Tryz.ty_load48 Go.Sim.Tryz.ty_zero48 Go.Sim.Tryz.ty_el48 Go.Sim.Tryz.ty_zeroE48 Go.Sim.Tryz.ty_load51 Go.Sim.Tryz.ty_zero51 Go.Sim.Tryz.ty_arr51 Go.Sim.Tryz.ty_part51_0 Go.Sim.Tryz.ty_part51_1 Go.Sim.Tryz.ty_struct51 Go.Sim.Tryz.ty_load59 Go.Sim.Tryz.ty_zero59 Go.Sim.Tryz.ty_fld59_0 Go.Sim.Tryz.ty_part59_0 Go.Sim.Tryz.ty_fld59_1 Go.Sim.Tryz.ty_part59_1 Go.Sim.Tryz.ty_struct59 Go.Sim.Tryz.ty_load60 Go.Sim.Tryz.ty_zero60 Go.Sim.Tryz.ty_el60 Go.Sim.Tryz.ty_zeroE60 Go.Sim.Tryz.ty_load62 Go.Sim.Tryz.ty_zero62 Go.Sim.Tryz.ty_fld62_0 Go.Sim.Tryz.ty_part62_0 Go.Sim.Tryz.ty_struct62 Go.Sim.Tryz.ty_load67 Go.Sim.Tryz.ty_zero67 Go.Sim.Tryz.ty_load68 Go.Sim.Tryz.ty_zero68 Go.Sim.Tryz.ty_load75 Go.Sim.Tryz.ty_zero75 Go.Sim.Tryz.ty_load76 Go.Sim.Tryz.ty_zero76 Go.Sim.Tryz.ty_und76 Go.Sim.Tryz.ty_load82 Go.Sim.Tryz.ty_zero82 Go.Sim.Tryz.ty_und82 Go.Sim.Tryz.ty_load85 Go.Sim.Tryz.ty_zero85 Go.Sim.Tryz.ty_und85 Go.Sim.Tryz.ty_load89 Go.Sim.Tryz.ty_zero89 Go.Sim.Tryz.ty_el89 Go.Sim.Tryz.ty_zeroE89 Go.Sim.Tryz.ty_load90 Go.Sim.Tryz.ty_zero90 Go.Sim.Tryz.ty_el90 Go.Sim.Tryz.ty_zeroE90 Go.Sim.Tryz.ty_load93 Go.Sim.Tryz.ty_zero93 Go.Sim.Tryz.ty_load98 Go.Sim.Tryz.ty_zero98 Go.Sim.Tryz.ty_fld98_0 Go.Sim.Tryz.ty_part98_0 Go.Sim.Tryz.ty_fld98_1 Go.Sim.Tryz.ty_part98_1 Go.Sim.Tryz.ty_fld98_2 Go.Sim.Tryz.ty_part98_2 Go.Sim.Tryz.ty_struct98 Go.Sim.Tryz.ty_load100 Go.Sim.Tryz.ty_zero100 Go.Sim.Tryz.ty_load106 Go.Sim.Tryz.ty_zero106 Go.Sim.Tryz.ty_load110 Go.Sim.Tryz.ty_zero110 Go.Sim.Tryz.ty_und110 Go.Sim.Tryz.ty_load118 Go.Sim.Tryz.ty_zero118 Go.Sim.Tryz.ty_und118 Go.Sim.Tryz.ty_load121 Go.Sim.Tryz.ty_zero121 Go.Sim.Tryz.ty_load128 Go.Sim.Tryz.ty_zero128 Go.Sim.Tryz.ty_und128 Go.Sim.Tryz.ty_load132 Go.Sim.Tryz.ty_zero132 encE_mk encE_take encE_len encV encE_one encEs_pure encE_pure

/-- The set of the first columns. -/
def ofC (cols : List Int) (i : Nat) : Bool := cols.any fun c => decide (c / 4 = i)
theorem ofC_snoc (cols : List Int) (c : Int) (h0 : 0 ≤ c) (h1 : c ≤ 15) : bor .i64 (ofBits (ofC cols)) (bshl .i64 1 (c / 4)) = ofBits (ofC (cols ++ [c])) := by
  obtain ⟨k, hk⟩ : ∃ k : Nat, c / 4 = k := ⟨(c / 4).toNat, by omega⟩
  rw [hk, bshl_one k (by omega), bor_range _ _ (ofBits_range _) (ofBits_range _)]
  refine ofBits_ext fun i hi => ?_
  rw [ofBits_bit _ i hi, ofBits_bit _ i hi, ofC, ofC, List.any_append, List.any_cons, List.any_nil, Bool.or_false, hk]
  congr 1
  rw [decide_eq_decide]
  omega
theorem ofSet_ok (cols : List Int) (hl : cols.length ≤ 1000000) (hr : ∀ c ∈ cols, 0 ≤ c ∧ c ≤ 15) : Quiet Go.Proofs.Tryz.prog 65 [.sl (cols.map encI)] (.int (ofBits (ofC cols))) := by
  refine quiet_of (rs := #[.tmp 2]) Go.Proofs.Tryz.func65 rfl rfl rfl mixed rfl rfl fun H hs => ?_
  simp -implicitDefEqProofs only [push_cast, Nat.reduceAdd, Nat.reduceSub, Nat.reduceMul, Nat.reduceLT, Nat.reduceLeDiff, Nat.reduceEqDiff, Nat.reduceBEq, reduceCtorEq, reduceIte, Int.reduceLE, Int.reduceLT, Int.reduceNeg, Int.reduceToNat]
  refine loop_rule hs (σ := Nat) (fun i => i ≤ cols.length) (fun i => cols.length - i)
    (fun i => [(9, .sl (cols.map encI)), (3, .int (ofBits (ofC (cols.take i)))), (10, .int cols.length), (11, .int i)]) (fun _ => []) 0 (by omega) ?_ ?_ ?_
  · (try simp -implicitDefEqProofs only [push_cast, Nat.reduceAdd, Nat.reduceSub, Nat.reduceMul, Nat.reduceLT, Nat.reduceLeDiff, Nat.reduceEqDiff, Nat.reduceBEq, reduceCtorEq, reduceIte, Int.reduceLE, Int.reduceLT, Int.reduceNeg, Int.reduceToNat, encIs_pure])
    rfl
  · (try simp -implicitDefEqProofs only [push_cast, Nat.reduceAdd, Nat.reduceSub, Nat.reduceMul, Nat.reduceLT, Nat.reduceLeDiff, Nat.reduceEqDiff, Nat.reduceBEq, reduceCtorEq, reduceIte, Int.reduceLE, Int.reduceLT, Int.reduceNeg, Int.reduceToNat])
  · rintro i h2
    by_cases hi : i < cols.length
    · have hi' : ((i : Int) < (cols.length : Int)) = True := by simp; omega
      have hi0 : (0 ≤ (i : Int)) = True := by simp
      have hc := hr cols[i] (List.getElem_mem hi)
      simp -implicitDefEqProofs only [push_cast, Nat.reduceAdd, Nat.reduceSub, Nat.reduceMul, Nat.reduceLT, Nat.reduceLeDiff, Nat.reduceEqDiff, Nat.reduceBEq, reduceCtorEq, reduceIte, Int.reduceLE, Int.reduceLT, Int.reduceNeg, Int.reduceToNat, hi', hi0, encIs_get cols i hi, encI]
      refine callq (Split_ok cols[i] hc.1 hc.2) ?_
      simp -implicitDefEqProofs only [push_cast, Nat.reduceAdd, Nat.reduceSub, Nat.reduceMul, Nat.reduceLT, Nat.reduceLeDiff, Nat.reduceEqDiff, Nat.reduceBEq, reduceCtorEq, reduceIte, Int.reduceLE, Int.reduceLT, Int.reduceNeg, Int.reduceToNat]
      refine ⟨by omega, ?_⟩
      rw [wrap64 (n := (i : Int) + 1) (by omega) (by omega), ofC_snoc _ _ hc.1 hc.2, ← List.take_succ_eq_append_getElem hi]
      refine next_intro (i + 1) (by omega) (by omega) ?_ ?_
      · (try simp -implicitDefEqProofs only [push_cast, Nat.reduceAdd, Nat.reduceSub, Nat.reduceMul, Nat.reduceLT, Nat.reduceLeDiff, Nat.reduceEqDiff, Nat.reduceBEq, reduceCtorEq, reduceIte, Int.reduceLE, Int.reduceLT, Int.reduceNeg, Int.reduceToNat, encIs_pure])
      · (try simp -implicitDefEqProofs only [push_cast, Nat.reduceAdd, Nat.reduceSub, Nat.reduceMul, Nat.reduceLT, Nat.reduceLeDiff, Nat.reduceEqDiff, Nat.reduceBEq, reduceCtorEq, reduceIte, Int.reduceLE, Int.reduceLT, Int.reduceNeg, Int.reduceToNat])
    · have hi' : ((i : Int) < (cols.length : Int)) = False := by simp; omega
      simp -implicitDefEqProofs only [push_cast, Nat.reduceAdd, Nat.reduceSub, Nat.reduceMul, Nat.reduceLT, Nat.reduceLeDiff, Nat.reduceEqDiff, Nat.reduceBEq, reduceCtorEq, reduceIte, Int.reduceLE, Int.reduceLT, Int.reduceNeg, Int.reduceToNat, hi']
      (try simp -implicitDefEqProofs only [push_cast, Nat.reduceAdd, Nat.reduceSub, Nat.reduceMul, Nat.reduceLT, Nat.reduceLeDiff, Nat.reduceEqDiff, Nat.reduceBEq, reduceCtorEq, reduceIte, Int.reduceLE, Int.reduceLT, Int.reduceNeg, Int.reduceToNat])
      rw [List.take_of_length_le (by omega)]
theorem ofE_ok (e : Ex) (hok : e.Ok) (hc : cnt e ≤ 1000000) : Quiet Go.Proofs.Tryz.prog 21 [.agg (encE e)] (.int (setE e)) := by
  refine quiet_of (rs := #[.tmp 2]) Go.Proofs.Tryz.func21 rfl rfl rfl mixed rfl rfl fun H hs => ?_
  simp -implicitDefEqProofs only [push_cast, Nat.reduceAdd, Nat.reduceSub, Nat.reduceMul, Nat.reduceLT, Nat.reduceLeDiff, Nat.reduceEqDiff, Nat.reduceBEq, reduceCtorEq, reduceIte, Int.reduceLE, Int.reduceLT, Int.reduceNeg, Int.reduceToNat]
  refine callq (Cols_ok e hok hc) ?_
  simp -implicitDefEqProofs only [push_cast, Nat.reduceAdd, Nat.reduceSub, Nat.reduceMul, Nat.reduceLT, Nat.reduceLeDiff, Nat.reduceEqDiff, Nat.reduceBEq, reduceCtorEq, reduceIte, Int.reduceLE, Int.reduceLT, Int.reduceNeg, Int.reduceToNat]
  refine callq (ofSet_ok e.cols (Nat.le_trans (cols_len e) hc) fun c hx => ?_) ?_
  · by_cases hm : e.may = true
    · exact cols_range e (fine_of_may hm) c ((cols_mem hm c).1 hx)
    · rw [cols_eq, if_neg hm] at hx
      cases hx
  · simp -implicitDefEqProofs only [push_cast, Nat.reduceAdd, Nat.reduceSub, Nat.reduceMul, Nat.reduceLT, Nat.reduceLeDiff, Nat.reduceEqDiff, Nat.reduceBEq, reduceCtorEq, reduceIte, Int.reduceLE, Int.reduceLT, Int.reduceNeg, Int.reduceToNat]
    (try simp -implicitDefEqProofs only [push_cast, Nat.reduceAdd, Nat.reduceSub, Nat.reduceMul, Nat.reduceLT, Nat.reduceLeDiff, Nat.reduceEqDiff, Nat.reduceBEq, reduceCtorEq, reduceIte, Int.reduceLE, Int.reduceLT, Int.reduceNeg, Int.reduceToNat])
    rfl
theorem containsI_ok (l : List Int) (hl : l.length ≤ 1000000) (x : Int) : Quiet Go.Proofs.Tryz.prog 58 [.sl (l.map encI), .int x] (.bool (l.contains x)) := by
  refine quiet_of (rs := #[.tmp 4]) Go.Proofs.Tryz.func58 rfl rfl rfl mixed rfl rfl fun H hs => ?_
  simp -implicitDefEqProofs only [push_cast, Nat.reduceAdd, Nat.reduceSub, Nat.reduceMul, Nat.reduceLT, Nat.reduceLeDiff, Nat.reduceEqDiff, Nat.reduceBEq, reduceCtorEq, reduceIte, Int.reduceLE, Int.reduceLT, Int.reduceNeg, Int.reduceToNat]
  refine callq (index_ok l (by omega) x) ?_
  simp -implicitDefEqProofs only [push_cast, Nat.reduceAdd, Nat.reduceSub, Nat.reduceMul, Nat.reduceLT, Nat.reduceLeDiff, Nat.reduceEqDiff, Nat.reduceBEq, reduceCtorEq, reduceIte, Int.reduceLE, Int.reduceLT, Int.reduceNeg, Int.reduceToNat, idx_nonneg]
  (try simp -implicitDefEqProofs only [push_cast, Nat.reduceAdd, Nat.reduceSub, Nat.reduceMul, Nat.reduceLT, Nat.reduceLeDiff, Nat.reduceEqDiff, Nat.reduceBEq, reduceCtorEq, reduceIte, Int.reduceLE, Int.reduceLT, Int.reduceNeg, Int.reduceToNat])
  rw [Bool.eq_iff_iff, List.any_eq_true, List.contains_iff_mem]
  constructor
  · rintro ⟨y, hy, h⟩
    rw [decide_eq_true_eq] at h
    rw [h]; exact hy
  · exact fun h => ⟨x, h, decide_eq_true rfl⟩
theorem within1_ok (l : List Int) (hl : l.length ≤ 1000000) (x : Int) : Quiet Go.Proofs.Tryz.prog 86 [.int x, .iptr [.sl (l.map encI)]] (.bool (!l.contains x)) := by
  refine quiet_of (rs := #[.tmp 3]) Go.Proofs.Tryz.func86 rfl rfl rfl mixed rfl rfl fun H hs => ?_
  simp -implicitDefEqProofs only [push_cast, Nat.reduceAdd, Nat.reduceSub, Nat.reduceMul, Nat.reduceLT, Nat.reduceLeDiff, Nat.reduceEqDiff, Nat.reduceBEq, reduceCtorEq, reduceIte, Int.reduceLE, Int.reduceLT, Int.reduceNeg, Int.reduceToNat]
  refine callq (containsI_ok l hl x) ?_
  simp -implicitDefEqProofs only [push_cast, Nat.reduceAdd, Nat.reduceSub, Nat.reduceMul, Nat.reduceLT, Nat.reduceLeDiff, Nat.reduceEqDiff, Nat.reduceBEq, reduceCtorEq, reduceIte, Int.reduceLE, Int.reduceLT, Int.reduceNeg, Int.reduceToNat]
  (try simp -implicitDefEqProofs only [push_cast, Nat.reduceAdd, Nat.reduceSub, Nat.reduceMul, Nat.reduceLT, Nat.reduceLeDiff, Nat.reduceEqDiff, Nat.reduceBEq, reduceCtorEq, reduceIte, Int.reduceLE, Int.reduceLT, Int.reduceNeg, Int.reduceToNat])
theorem within_ok (l m : List Int) (hl : l.length ≤ 1000000) (hm : m.length ≤ 1000000) : Quiet Go.Proofs.Tryz.prog 56 [.sl (l.map encI), .sl (m.map encI)] (.bool (within l m)) := by
  refine quiet_of (rs := #[.tmp 4]) Go.Proofs.Tryz.func56 rfl rfl rfl mixed rfl rfl fun H hs => ?_
  simp -implicitDefEqProofs only [push_cast, Nat.reduceAdd, Nat.reduceSub, Nat.reduceMul, Nat.reduceLT, Nat.reduceLeDiff, Nat.reduceEqDiff, Nat.reduceBEq, reduceCtorEq, reduceIte, Int.reduceLE, Int.reduceLT, Int.reduceNeg, Int.reduceToNat]
  refine fzk H 0 1 [.sl (l.map encI), .clo (.func 86) [] [.iptr [.sl (m.map encI)]]] (by rfl) (by omega) (by simp) ?_ ?_
  · (try simp -implicitDefEqProofs only [push_cast, Nat.reduceAdd, Nat.reduceSub, Nat.reduceMul, Nat.reduceLT, Nat.reduceLeDiff, Nat.reduceEqDiff, Nat.reduceBEq, reduceCtorEq, reduceIte, Int.reduceLE, Int.reduceLT, Int.reduceNeg, Int.reduceToNat, encIs_pure])
  refine callq (containsFuncI_ok l (by omega) _ [.iptr [.sl (m.map encI)]] (by simp [PureL, Pure, encIs_pure]) (fun x => !m.contains x) fun x _ => within1_ok m hm x) ?_
  simp -implicitDefEqProofs only [push_cast, Nat.reduceAdd, Nat.reduceSub, Nat.reduceMul, Nat.reduceLT, Nat.reduceLeDiff, Nat.reduceEqDiff, Nat.reduceBEq, reduceCtorEq, reduceIte, Int.reduceLE, Int.reduceLT, Int.reduceNeg, Int.reduceToNat]
  (try simp -implicitDefEqProofs only [push_cast, Nat.reduceAdd, Nat.reduceSub, Nat.reduceMul, Nat.reduceLT, Nat.reduceLeDiff, Nat.reduceEqDiff, Nat.reduceBEq, reduceCtorEq, reduceIte, Int.reduceLE, Int.reduceLT, Int.reduceNeg, Int.reduceToNat])
  rw [within, List.all_eq_not_any_not]
theorem idxF_take (p : Ex → Bool) (P : List Ex) (i : Nat) (h : i < P.length) : idxF p (P.take (i + 1)) = idxF p (P.take i) ++ (if p P[i] then [(i : Int)] else []) := by
  rw [List.take_succ_eq_append_getElem h, idxF_snoc, List.length_take, Nat.min_eq_left (by omega)]
theorem idxF_yes (p : Ex → Bool) (P : List Ex) (i : Nat) (h : i < P.length) (hp : p P[i] = true) : idxF p (P.take (i + 1)) = idxF p (P.take i) ++ [(i : Int)] := by rw [idxF_take p P i h, if_pos hp]
theorem idxF_no (p : Ex → Bool) (P : List Ex) (i : Nat) (h : i < P.length) (hp : p P[i] = false) : idxF p (P.take (i + 1)) = idxF p (P.take i) := by rw [idxF_take p P i h, if_neg (by simp [hp]), List.append_nil]
theorem idxF_nil (p : Ex → Bool) : idxF p [] = [] := rfl
theorem idxF_lt (p : Ex → Bool) (P : List Ex) : (idxF p P).length ≤ P.length := Nat.le_trans (List.length_filter_le _ _) (by rw [upto_len]; omega)
/-- What is asked, as a value. -/
def encQ (q : Qy) : List AV := [.sl (q.occ.map encI), .sl (q.p.map encE), .int q.by_, .sl (q.sums.map encI), .sl (q.out.map encI), .int q.ord]
/-- The places of those expressions whose set is so. -/
theorem some_Q (q : Qy) (fn : FuncId) (bnd caps : List AV) (hb : PureL bnd) (hc : PureL caps) (p : Ex → Bool) (hP : q.p.length ≤ 1000000) (hok : ∀ e ∈ q.p, e.Ok ∧ cnt e ≤ 1000000)
    (hf : ∀ e ∈ q.p, Quiet Go.Proofs.Tryz.prog fn (bnd ++ .int (setE e) :: caps) (.bool (p e))) :
    Quiet Go.Proofs.Tryz.prog 59 [.agg (encQ q), .clo (.func fn) bnd caps] (.sl ((idxF p q.p).map encI)) := by
  refine quiet_of (rs := #[.tmp 4]) Go.Proofs.Tryz.func59 rfl rfl rfl mixed rfl rfl fun H hs => ?_
  simp -implicitDefEqProofs only [push_cast, Nat.reduceAdd, Nat.reduceSub, Nat.reduceMul, Nat.reduceLT, Nat.reduceLeDiff, Nat.reduceEqDiff, Nat.reduceBEq, reduceCtorEq, reduceIte, Int.reduceLE, Int.reduceLT, Int.reduceNeg, Int.reduceToNat, encQ]
  refine loop_at hs (σ := Nat) (fun i => i ≤ q.p.length) (fun i => q.p.length - i)
    (fun i => [(11, .int i), (10, .int q.p.length), (9, .sl (q.p.map encE)), (5, .rsl (H.nxt + 0) 1 0 (idxF p (q.p.take i)).length), (1, .clo (.func fn) bnd caps)]) (fun i => [some (.cells 1 (rowI (idxF p (q.p.take i))) 0)]) [none] 0 (by omega) rfl ?_ ?_ ?_
  · (try simp -implicitDefEqProofs only [push_cast, Nat.reduceAdd, Nat.reduceSub, Nat.reduceMul, Nat.reduceLT, Nat.reduceLeDiff, Nat.reduceEqDiff, Nat.reduceBEq, reduceCtorEq, reduceIte, Int.reduceLE, Int.reduceLT, Int.reduceNeg, Int.reduceToNat, idxF_nil, rowI_nil, List.take_zero, encEs_pure, hb, hc])
  · (try simp -implicitDefEqProofs only [push_cast, Nat.reduceAdd, Nat.reduceSub, Nat.reduceMul, Nat.reduceLT, Nat.reduceLeDiff, Nat.reduceEqDiff, Nat.reduceBEq, reduceCtorEq, reduceIte, Int.reduceLE, Int.reduceLT, Int.reduceNeg, Int.reduceToNat, idxF_nil, rowI_nil, List.take_zero])
  intro i hi2
  have hlen := idxF_lt p (q.p.take i)
  rw [List.length_take] at hlen
  by_cases hi : i < q.p.length
  · have hi' : ((i : Int) < (q.p.length : Int)) = True := by simp; omega
    have hi0 : (0 ≤ (i : Int)) = True := by simp
    have ho := hok _ (List.getElem_mem hi)
    simp -implicitDefEqProofs only [push_cast, Nat.reduceAdd, Nat.reduceSub, Nat.reduceMul, Nat.reduceLT, Nat.reduceLeDiff, Nat.reduceEqDiff, Nat.reduceBEq, reduceCtorEq, reduceIte, Int.reduceLE, Int.reduceLT, Int.reduceNeg, Int.reduceToNat, hi', hi0, encEs_get q.p i hi]
    refine callq (ofE_ok _ ho.1 ho.2) ?_
    simp -implicitDefEqProofs only [push_cast, Nat.reduceAdd, Nat.reduceSub, Nat.reduceMul, Nat.reduceLT, Nat.reduceLeDiff, Nat.reduceEqDiff, Nat.reduceBEq, reduceCtorEq, reduceIte, Int.reduceLE, Int.reduceLT, Int.reduceNeg, Int.reduceToNat]
    refine callq (hf _ (List.getElem_mem hi)) ?_
    simp -implicitDefEqProofs only [push_cast, Nat.reduceAdd, Nat.reduceSub, Nat.reduceMul, Nat.reduceLT, Nat.reduceLeDiff, Nat.reduceEqDiff, Nat.reduceBEq, reduceCtorEq, reduceIte, Int.reduceLE, Int.reduceLT, Int.reduceNeg, Int.reduceToNat]
    refine ⟨fun h => ⟨by omega, ?_⟩, fun h => ?_⟩
    · rw [wrap64 (n := (i : Int) + 1) (by omega) (by omega)]
      refine next_at [some 3] (i + 1) (by omega) (by omega) rfl ?_ ?_
      · (try simp -implicitDefEqProofs only [push_cast, Nat.reduceAdd, Nat.reduceSub, Nat.reduceMul, Nat.reduceLT, Nat.reduceLeDiff, Nat.reduceEqDiff, Nat.reduceBEq, reduceCtorEq, reduceIte, Int.reduceLE, Int.reduceLT, Int.reduceNeg, Int.reduceToNat, idxF_yes p q.p i hi h, encEs_pure, hb, hc])
      · (try simp -implicitDefEqProofs only [push_cast, Nat.reduceAdd, Nat.reduceSub, Nat.reduceMul, Nat.reduceLT, Nat.reduceLeDiff, Nat.reduceEqDiff, Nat.reduceBEq, reduceCtorEq, reduceIte, Int.reduceLE, Int.reduceLT, Int.reduceNeg, Int.reduceToNat, idxF_yes p q.p i hi h, take_rowI _ _ (Nat.le_refl _), snocI, rowI_pure, rowI_one])
    · rw [wrap64 (n := (i : Int) + 1) (by omega) (by omega)]
      refine next_at [some 0] (i + 1) (by omega) (by omega) rfl ?_ ?_
      · (try simp -implicitDefEqProofs only [push_cast, Nat.reduceAdd, Nat.reduceSub, Nat.reduceMul, Nat.reduceLT, Nat.reduceLeDiff, Nat.reduceEqDiff, Nat.reduceBEq, reduceCtorEq, reduceIte, Int.reduceLE, Int.reduceLT, Int.reduceNeg, Int.reduceToNat, idxF_no p q.p i hi h, encEs_pure, hb, hc])
      · (try simp -implicitDefEqProofs only [push_cast, Nat.reduceAdd, Nat.reduceSub, Nat.reduceMul, Nat.reduceLT, Nat.reduceLeDiff, Nat.reduceEqDiff, Nat.reduceBEq, reduceCtorEq, reduceIte, Int.reduceLE, Int.reduceLT, Int.reduceNeg, Int.reduceToNat, idxF_no p q.p i hi h, rowI_pure, rowI_one])
  · have hi' : ((i : Int) < (q.p.length : Int)) = False := by simp; omega
    simp -implicitDefEqProofs only [push_cast, Nat.reduceAdd, Nat.reduceSub, Nat.reduceMul, Nat.reduceLT, Nat.reduceLeDiff, Nat.reduceEqDiff, Nat.reduceBEq, reduceCtorEq, reduceIte, Int.reduceLE, Int.reduceLT, Int.reduceNeg, Int.reduceToNat, hi']
    (try simp -implicitDefEqProofs only [push_cast, Nat.reduceAdd, Nat.reduceSub, Nat.reduceMul, Nat.reduceLT, Nat.reduceLeDiff, Nat.reduceEqDiff, Nat.reduceBEq, reduceCtorEq, reduceIte, Int.reduceLE, Int.reduceLT, Int.reduceNeg, Int.reduceToNat])
    obtain rfl : i = q.p.length := by omega
    rw [List.take_length, take_rowI _ _ (Nat.le_refl _)]
    exact sealLL_pure _ _ _ (encIs_pure _)
/-- What may be walked. -/
def Qy.Ok (q : Qy) : Prop := q.p.length ≤ 1000000 ∧ (∀ e ∈ q.p, e.Ok ∧ cnt e ≤ 1000000) ∧ q.occ.length ≤ 1000000 ∧ q.sums.length ≤ 1000000 ∧ q.out.length ≤ 1000000
theorem Own_ok (q : Qy) (hq : q.Ok) (s : Int) : Quiet Go.Proofs.Tryz.prog 17 [.agg (encQ q), .int s] (.sl ((q.own s).map encI)) := by
  have hsm := some_Q q 60 [.int s] [] (by simp [PureL, Pure]) trivial (ownT s) hq.1 hq.2.1 fun e _ => setHolds_ok s _ (setE_range e).1 (setE_range e).2
  refine quiet_of (rs := #[.tmp 4]) Go.Proofs.Tryz.func17 rfl rfl rfl mixed rfl rfl fun H hs => ?_
  simp only [encQ] at hsm
  simp -implicitDefEqProofs only [push_cast, Nat.reduceAdd, Nat.reduceSub, Nat.reduceMul, Nat.reduceLT, Nat.reduceLeDiff, Nat.reduceEqDiff, Nat.reduceBEq, reduceCtorEq, reduceIte, Int.reduceLE, Int.reduceLT, Int.reduceNeg, Int.reduceToNat, encQ]
  refine callq hsm ?_
  simp -implicitDefEqProofs only [push_cast, Nat.reduceAdd, Nat.reduceSub, Nat.reduceMul, Nat.reduceLT, Nat.reduceLeDiff, Nat.reduceEqDiff, Nat.reduceBEq, reduceCtorEq, reduceIte, Int.reduceLE, Int.reduceLT, Int.reduceNeg, Int.reduceToNat]
  (try simp -implicitDefEqProofs only [push_cast, Nat.reduceAdd, Nat.reduceSub, Nat.reduceMul, Nat.reduceLT, Nat.reduceLeDiff, Nat.reduceEqDiff, Nat.reduceBEq, reduceCtorEq, reduceIte, Int.reduceLE, Int.reduceLT, Int.reduceNeg, Int.reduceToNat])
  exact sealLL_pure _ _ _ (encIs_pure _)
end Go.Sim.Tryz
set_option linter.unusedSimpArgs false
set_option linter.unusedVariables false
set_option maxRecDepth 100000
namespace Go.Sim.Tryz
open Go Go.Sim
attribute [local push_cast] aops_cons aops_nil aopG_none aopG_some aopP_eq aopE_eq aopC_eq aopE?_eq aopC?_eq aopB_eq aopB?_eq abr anilq gopP_eq gopL_eq ahead_cons ahead_nil ahdG_none ahdG_some ahdP_eq ahdN_eq ahdC_eq ahdN?_eq ahdS_eq ahdS?_eq astoreN ahdC?_eq ghdP_eq ghdC_eq ghdC?_eq ghdZ_f ghdZ_t ahdI_eq ahdI?_eq ghdN?_eq aim_nil aim_cons isIn_nil isIn_none isIn_cons aimm aheP_eq aheA_eq aheC_eq aheC?_eq aheI?_eq aheA?_eq gheP_eq gheC_eq gheC?_eq gheZ_eq aheG_none aheG_some aheff_cons aheff_nil aapp gro_rsl gro_lit gro_esl opt_some opt_none no_eq acondT_true acondT_false acondT_lit aw_skip aw_region aw_regionD aw_seq aw_cond aw_block aw_loop aw_exit aw_label aw_ret thn_normal thn_exit thn_ret inb_normal inb_exit inb_ret qret_ret qret_normal gcond apure aeff anew acallee ares aresT aresL aresC ares1 qfin_eq ev ofV evL gokL tget tput_some tput_none initT abin aint aun aload afaddr aiaddr afield aindex aextract apick pickv_lit Bool.or_false Bool.false_or Bool.or_true Bool.true_or imp_self aslice chunk roomB abound aconv abuild afill splice alen aminmax abuiltin anil apart Value.oneCell' astore aappend srcEs abuildSlice asets isEq plus_obj plus_nxt plus_add plus_set plus_del IntKind.bits Option.map_some Option.map_none Option.bind_some Option.bind_none Option.join_some Option.getD_some Option.getD_none Option.toList Option.isSome_some List.getElem?_toArray List.getElem?_cons_zero List.getElem?_cons_succ List.getElem?_nil List.length_cons List.length_nil List.length_map List.head?_cons List.cons_append List.nil_append List.append_nil List.map_cons List.map_nil List.getD_cons_zero List.getD_cons_succ List.replicate_succ List.replicate_zero List.set_cons_zero List.set_cons_succ List.take_succ_cons List.take_zero List.drop_succ_cons List.drop_zero List.all_cons List.all_nil Nat.zero_add if_true if_false true_and and_true false_and and_false true_implies implies_true forall_const Bool.and_true Bool.true_and Bool.false_and Bool.and_false Bool.true_beq Bool.false_beq Bool.not_not beq_tt beq_ff Int.toNat_natCast decide_true decide_false Bool.not_true Bool.not_false Bool.true_eq_false Bool.false_eq_true false_implies exists_prop eq_self bne_self_eq_false beq_self_eq_true decide_eq_true_eq decide_eq_false_iff_not Bool.not_eq_true' Bool.not_eq_false' AV.int AV.bool AV.nilS ne_eq not_false_eq_true not_true_eq_false exists_eq_left exists_eq_left' Nat.lt_irrefl core_lit grd_lit acells_lit one_lit core_agg grd_agg acells_agg one_agg core_tup grd_tup acells_tup one_tup core_sl grd_sl acells_sl one_sl core_esl grd_esl acells_esl one_esl core_rsl grd_rsl acells_rsl one_rsl core_ptr grd_ptr acells_ptr one_ptr core_iptr grd_iptr acells_iptr one_iptr core_clo grd_clo acells_clo one_clo core_mp grd_mp acells_mp one_mp core_any grd_any acells_any one_any core_gv grd_gv fit_agg fit_lit fit_sl fit_esl fit_rsl fit_ptr fit_iptr fit_clo fit_mp retq_ret retq_normal set_nxt set_set plus_obj_set plus_set_set app_get0 app_get app_set0 app_set List.append_assoc List.length_append List.length_set Nat.lt_add_one Nat.add_lt_add_iff_right Nat.lt_add_right_iff_pos Nat.add_lt_add_iff_left List.mem_cons List.not_mem_nil or_false forall_eq forall_eq_or_imp lt_s0 lt_s1 lt_s2 lt_s3 lt_s4 lt_s5 lt_s6 lt_s7 lt_s8 pickv_t pickv_f or_nand or_nand2 imp_and_l SealT SealOs sealO_cells sl_lit sl_any sl_agg sl_tup sl_sl sl_rsl slO sl_esl sl_nil sl_eslesl sl_eslnil sl_rslrsl sl_eslrsl sl_nilrsl sl_ptr sl_iptr sl_ptri slP sl_clo sl_mp sl_gv sll_nil sll_cons slll_nil slll_cons shut_eq shutO Option.join_none Fn.func.injEq and_self sealL_self sealLL_self seal_self PureL PureLL Pure Nat.le_refl Nat.zero_le AV.lit.injEq Value.int.injEq Value.bool.injEq false_or or_true true_or Int.natCast_zero Int.ofNat_zero Int.cast_ofNat_Int Int.natCast_add Int.natCast_one Option.some.injEq piL_is sop_nil sop_cons sop_none sop_some sopO_some sop_new shut_pi shutL_nil shutL_cons exQ_exit exQ_ret exQ_normal Go.Sim.Tryz.ty_load1 Go.Sim.Tryz.ty_zero1 Go.Sim.Tryz.ty_load2 Go.Sim.Tryz.ty_zero2 Go.Sim.Tryz.ty_und2 Go.Sim.Tryz.ty_load3 Go.Sim.Tryz.ty_zero3 Go.Sim.Tryz.ty_und3 Go.Sim.Tryz.ty_load4 Go.Sim.Tryz.ty_zero4 Go.Sim.Tryz.ty_und4 Go.Sim.Tryz.ty_load5 Go.Sim.Tryz.ty_zero5 Go.Sim.Tryz.ty_und5 Go.Sim.Tryz.ty_load9 Go.Sim.Tryz.ty_zero9 Go.Sim.Tryz.ty_und9 Go.Sim.Tryz.ty_load22 Go.Sim.Tryz.ty_zero22 Go.Sim.Tryz.ty_el22 Go.Sim.Tryz.ty_zeroE22 Go.Sim.Tryz.ty_load24 Go.Sim.Tryz.ty_zero24 Go.Sim.Tryz.ty_fld24_0 Go.Sim.Tryz.ty_part24_0 Go.Sim.Tryz.ty_struct24 Go.Sim.Tryz.ty_load25 Go.Sim.Tryz.ty_zero25 Go.Sim.Tryz.ty_el25 Go.Sim.Tryz.ty_zeroE25 Go.Sim.Tryz.ty_load26 Go.Sim.Tryz.ty_zero26 Go.Sim.Tryz.ty_el26 Go.Sim.Tryz.ty_zeroE26 Go.Sim.Tryz.ty_load28 Go.Sim.Tryz.ty_zero28 Go.Sim.Tryz.ty_fld28_0 Go.Sim.Tryz.ty_part28_0 Go.Sim.Tryz.ty_fld28_1 Go.Sim.Tryz.ty_part28_1 Go.Sim.Tryz.ty_fld28_2 Go.Sim.Tryz.ty_part28_2 Go.Sim.Tryz.ty_fld28_3 Go.Sim.Tryz.ty_part28_3 Go.Sim.Tryz.ty_fld28_4 Go.Sim.Tryz.ty_part28_4 Go.Sim.Tryz.ty_fld28_5 Go.Sim.Tryz.ty_part28_5 Go.Sim.Tryz.ty_struct28 Go.Sim.Tryz.ty_load36 Go.Sim.Tryz.ty_zero36 Go.Sim.Tryz.ty_fld36_0 Go.Sim.Tryz.ty_part36_0 Go.Sim.Tryz.ty_fld36_1 Go.Sim.Tryz.ty_part36_1 Go.Sim.Tryz.ty_struct36 Go.Sim.Tryz.ty_load38 Go.Sim.Tryz.ty_zero38 Go.Sim.Tryz.ty_fld38_0 Go.Sim.Tryz.ty_part38_0 Go.Sim.Tryz.ty_fld38_1 Go.Sim.Tryz.ty_part38_1 Go.Sim.Tryz.ty_fld38_2 Go.Sim.Tryz.ty_part38_2 Go.Sim.Tryz.ty_fld38_3 Go.Sim.Tryz.ty_part38_3 Go.Sim.Tryz.ty_struct38 Go.Sim.Tryz.ty_load48 Go.Sim.Tryz.ty_zero48 Go.Sim.Tryz.ty_el48 Go.Sim.Tryz.ty_zeroE48 Go.Sim.Tryz.ty_load51 Go.Sim.Tryz.ty_zero51 Go.Sim.Tryz.ty_arr51 Go.Sim.Tryz.ty_part51_0 Go.Sim.Tryz.ty_part51_1 Go.Sim.Tryz.ty_struct51 Go.Sim.Tryz.ty_load59 Go.Sim.Tryz.ty_zero59 Go.Sim.Tryz.ty_fld59_0 Go.Sim.Tryz.ty_part59_0 Go.Sim.Tryz.ty_fld59_1 Go.Sim.Tryz.ty_part59_1 Go.Sim.Tryz.ty_struct59 Go.Sim.Tryz.ty_load60 Go.Sim.Tryz.ty_zero60 Go.Sim.Tryz.ty_el60 Go.Sim.Tryz.ty_zeroE60 Go.Sim.Tryz.ty_load62 Go.Sim.Tryz.ty_zero62 Go.Sim.Tryz.ty_fld62_0 Go.Sim.Tryz.ty_part62_0 Go.Sim.Tryz.ty_struct62 Go.Sim.Tryz.ty_load67 Go.Sim.Tryz.ty_zero67 Go.Sim.Tryz.ty_load68 Go.Sim.Tryz.ty_zero68 Go.Sim.Tryz.ty_load75 Go.Sim.Tryz.ty_zero75 Go.Sim.Tryz.ty_load76 Go.Sim.Tryz.ty_zero76 Go.Sim.Tryz.ty_und76 Go.Sim.Tryz.ty_load82 Go.Sim.Tryz.ty_zero82 Go.Sim.Tryz.ty_und82 Go.Sim.Tryz.ty_load85 Go.Sim.Tryz.ty_zero85 Go.Sim.Tryz.ty_und85 Go.Sim.Tryz.ty_load89 Go.Sim.Tryz.ty_zero89 Go.Sim.Tryz.ty_el89 Go.Sim.Tryz.ty_zeroE89 Go.Sim.Tryz.ty_load90 Go.Sim.Tryz.ty_zero90 Go.Sim.Tryz.ty_el90 Go.Sim.Tryz.ty_zeroE90 Go.Sim.Tryz.ty_load93 Go.Sim.Tryz.ty_zero93 Go.Sim.Tryz.ty_load98 Go.Sim.Tryz.ty_zero98 Go.Sim.Tryz.ty_fld98_0 Go.Sim.Tryz.ty_part98_0 Go.Sim.Tryz.ty_fld98_1 Go.Sim.Tryz.ty_part98_1 Go.Sim.Tryz.ty_fld98_2 Go.Sim.Tryz.ty_part98_2 Go.Sim.Tryz.ty_struct98 Go.Sim.Tryz.ty_load100 Go.Sim.Tryz.ty_zero100 Go.Sim.Tryz.ty_load106 Go.Sim.Tryz.ty_zero106 Go.Sim.Tryz.ty_load110 Go.Sim.Tryz.ty_zero110 Go.Sim.Tryz.ty_und110 Go.Sim.Tryz.ty_load118 Go.Sim.Tryz.ty_zero118 Go.Sim.Tryz.ty_und118 Go.Sim.Tryz.ty_load121 Go.Sim.Tryz.ty_zero121 Go.Sim.Tryz.ty_load128 Go.Sim.Tryz.ty_zero128 Go.Sim.Tryz.ty_und128 Go.Sim.Tryz.ty_load132 Go.Sim.Tryz.ty_zero132 encE_mk encE_take encE_len encV encE_one encEs_pure encE_pure

theorem May2_ok (o : Int) : Quiet Go.Proofs.Tryz.prog 55 [.int o] (.bool true) := by
  refine quiet_of (rs := #[.tmp 2]) Go.Proofs.Tryz.func55 rfl rfl rfl mixed rfl rfl fun H hs => ?_
  simp -implicitDefEqProofs only [push_cast, Nat.reduceAdd, Nat.reduceSub, Nat.reduceMul, Nat.reduceLT, Nat.reduceLeDiff, Nat.reduceEqDiff, Nat.reduceBEq, reduceCtorEq, reduceIte, Int.reduceLE, Int.reduceLT, Int.reduceNeg, Int.reduceToNat]
  (try simp -implicitDefEqProofs only [push_cast, Nat.reduceAdd, Nat.reduceSub, Nat.reduceMul, Nat.reduceLT, Nat.reduceLeDiff, Nat.reduceEqDiff, Nat.reduceBEq, reduceCtorEq, reduceIte, Int.reduceLE, Int.reduceLT, Int.reduceNeg, Int.reduceToNat])
theorem colsTo_yes (c : List Df) (q : Qy) (is : Nat → Bool) (k : Nat) (h : is k = true) : colsTo c q is (k + 1) = colsTo c q is k ++ colsFrom k (tabOf c q k).toNat := by rw [colsTo, if_pos h]
theorem colsTo_no (c : List Df) (q : Qy) (is : Nat → Bool) (k : Nat) (h : is k = false) : colsTo c q is (k + 1) = colsTo c q is k := by rw [colsTo, if_neg (by simp [h]), List.append_nil]
theorem colsFrom_zero (o : Nat) : colsFrom o 0 = [] := rfl
theorem colsFrom_len (o n : Nat) : (colsFrom o n).length = n := by rw [colsFrom, List.length_map, upto_len]
theorem colsTo_len {c : List Df} (h : catMay c = true) (q : Qy) (is : Nat → Bool) : ∀ k, (colsTo c q is k).length ≤ 4 * k
  | 0 => by rw [colsTo]; simp
  | k + 1 => by
    have hr := tab_range h (q.occ.getD k (-1))
    change 0 ≤ tabOf c q k ∧ tabOf c q k ≤ 4 at hr
    have := colsTo_len h q is k
    rw [colsTo, List.length_append]
    split
    · rw [colsFrom_len]; omega
    · rw [List.length_nil]; omega
def colsPart (c : List Df) (q : Qy) (is : Nat → Bool) (k j : Nat) : List Int := colsTo c q is k ++ colsFrom k j
theorem colsPart_zero (c : List Df) (q : Qy) (is : Nat → Bool) (k : Nat) : colsPart c q is k 0 = colsTo c q is k := by rw [colsPart, colsFrom_zero, List.append_nil]
theorem colsPart_snoc (c : List Df) (q : Qy) (is : Nat → Bool) (k j : Nat) : colsPart c q is k (j + 1) = colsPart c q is k j ++ [4 * (k : Int) + j] := by rw [colsPart, colsPart, colsFrom_snoc, List.append_assoc]
set_option maxHeartbeats 1000000 in
theorem all_ok (c : List Df) (q : Qy) (hc : catMay c = true) (hl : q.occ.length ≤ 1000000) (fn : FuncId) (bnd caps : List AV) (hb : PureL bnd) (hcp : PureL caps) (is : Nat → Bool)
    (hf : ∀ o : Nat, o < 4 → Quiet Go.Proofs.Tryz.prog fn (bnd ++ .int o :: caps) (.bool (is o))) :
    Quiet Go.Proofs.Tryz.prog 54 [.agg [.sl (c.map encD)], .agg (encQ q), .clo (.func fn) bnd caps] (.sl ((colsIn c q is).map encI)) := by
  rw [← colsTo_eq hc]
  refine quiet_of (rs := #[.tmp 6]) Go.Proofs.Tryz.func54 rfl rfl rfl mixed rfl rfl fun H hs => ?_
  simp -implicitDefEqProofs only [push_cast, Nat.reduceAdd, Nat.reduceSub, Nat.reduceMul, Nat.reduceLT, Nat.reduceLeDiff, Nat.reduceEqDiff, Nat.reduceBEq, reduceCtorEq, reduceIte, Int.reduceLE, Int.reduceLT, Int.reduceNeg, Int.reduceToNat, encQ]
  have hmin : (min (q.occ.length : Int) 4) = ((min q.occ.length 4 : Nat) : Int) := by omega
  refine loop_at hs (σ := Nat) (fun k => k ≤ min q.occ.length 4) (fun k => min q.occ.length 4 - k)
    (fun k => [(15, .int k), (14, .int (min q.occ.length 4 : Nat)), (2, .clo (.func fn) bnd caps), (3, .ptr (H.nxt + 0) 1 0 0), (4, .ptr (H.nxt + 1) 6 0 0), (7, .rsl (H.nxt + 2) 1 0 (colsTo c q is k).length)])
    (fun k => [some (.cells 1 [[.sl (c.map encD)]] 0), some (.cells 6 [encQ q] 0), some (.cells 1 (rowI (colsTo c q is k)) 0)]) [some 0, some 1, none] 0 (by omega) rfl ?_ ?_ ?_
  · (try simp -implicitDefEqProofs only [push_cast, Nat.reduceAdd, Nat.reduceSub, Nat.reduceMul, Nat.reduceLT, Nat.reduceLeDiff, Nat.reduceEqDiff, Nat.reduceBEq, reduceCtorEq, reduceIte, Int.reduceLE, Int.reduceLT, Int.reduceNeg, Int.reduceToNat, colsTo, rowI_nil, encDs_pure, encIs_pure, encEs_pure, hb, hcp, encQ])
    split <;> omega
  · (try simp -implicitDefEqProofs only [push_cast, Nat.reduceAdd, Nat.reduceSub, Nat.reduceMul, Nat.reduceLT, Nat.reduceLeDiff, Nat.reduceEqDiff, Nat.reduceBEq, reduceCtorEq, reduceIte, Int.reduceLE, Int.reduceLT, Int.reduceNeg, Int.reduceToNat, colsTo, rowI_nil, encDs_pure, encIs_pure, encEs_pure, encQ])
  intro k hk2
  by_cases hk : k < min q.occ.length 4
  · have hk' : ((k : Int) < ((min q.occ.length 4 : Nat) : Int)) = True := by simp; omega
    have hk0 : (0 ≤ (k : Int)) = True := by simp
    have hkl : k < q.occ.length := by omega
    simp -implicitDefEqProofs only [push_cast, Nat.reduceAdd, Nat.reduceSub, Nat.reduceMul, Nat.reduceLT, Nat.reduceLeDiff, Nat.reduceEqDiff, Nat.reduceBEq, reduceCtorEq, reduceIte, Int.reduceLE, Int.reduceLT, Int.reduceNeg, Int.reduceToNat, hk', hk0, encQ, encIs_get q.occ k hkl, encI]
    refine ⟨by omega, callq (hf k (by omega)) ?_⟩
    simp -implicitDefEqProofs only [push_cast, Nat.reduceAdd, Nat.reduceSub, Nat.reduceMul, Nat.reduceLT, Nat.reduceLeDiff, Nat.reduceEqDiff, Nat.reduceBEq, reduceCtorEq, reduceIte, Int.reduceLE, Int.reduceLT, Int.reduceNeg, Int.reduceToNat]
    have hocc : q.occ.getD k (-1) = q.occ[k] := by rw [List.getD_eq_getElem?_getD, List.getElem?_eq_getElem hkl]; rfl
    refine ⟨fun h => ?_, fun h => ?_⟩
    · have hsk : colsTo c q is (k + 1) = colsTo c q is k := by
        simp only [Bool.or_eq_true, Bool.not_eq_true', decide_eq_true_eq] at h
        cases his : is k
        · exact colsTo_no c q is k his
        · rw [colsTo_yes c q is k his, tabOf, hocc, tabCols, if_neg (by rw [his] at h; simp at h; omega)]
          simp [colsFrom, upto]
      rw [wrap64 (n := (k : Int) + 1) (by omega) (by omega)]
      refine next_at [some 0, some 1, some 2] (k + 1) (by omega) (by omega) rfl ?_ ?_
      · (try simp -implicitDefEqProofs only [push_cast, Nat.reduceAdd, Nat.reduceSub, Nat.reduceMul, Nat.reduceLT, Nat.reduceLeDiff, Nat.reduceEqDiff, Nat.reduceBEq, reduceCtorEq, reduceIte, Int.reduceLE, Int.reduceLT, Int.reduceNeg, Int.reduceToNat, hsk, encDs_pure, encIs_pure, encEs_pure, hb, hcp, encQ])
      · (try simp -implicitDefEqProofs only [push_cast, Nat.reduceAdd, Nat.reduceSub, Nat.reduceMul, Nat.reduceLT, Nat.reduceLeDiff, Nat.reduceEqDiff, Nat.reduceBEq, reduceCtorEq, reduceIte, Int.reduceLE, Int.reduceLT, Int.reduceNeg, Int.reduceToNat, hsk, encDs_pure, encIs_pure, encEs_pure, hb, hcp, encQ, rowI_pure, rowI_one])
    · simp only [Bool.or_eq_false_iff, Bool.not_eq_false', decide_eq_false_iff_not] at h
      obtain ⟨⟨his, ht0⟩, ht1⟩ := h
      obtain ⟨t, ht⟩ : ∃ t : Nat, q.occ[k] = t := ⟨q.occ[k].toNat, by omega⟩
      have htl : t < c.length := by omega
      have ht0' : (0 ≤ (t : Int)) = True := by simp
      have ht1' : ((t : Int) < (c.length : Int)) = True := by simp; omega
      have htab : tabOf c q k = c[t].cols := by
        rw [tabOf, hocc, ht, tabCols, if_pos (by omega), Int.toNat_natCast, List.getD_eq_getElem?_getD, List.getElem?_eq_getElem htl]
        rfl
      have htr := tab_range hc (q.occ.getD k (-1))
      change 0 ≤ tabOf c q k ∧ tabOf c q k ≤ 4 at htr
      rw [htab] at htr
      obtain ⟨m, hm⟩ : ∃ m : Nat, c[t].cols = m := ⟨c[t].cols.toNat, by omega⟩
      simp only [ht]
      simp -implicitDefEqProofs only [push_cast, Nat.reduceAdd, Nat.reduceSub, Nat.reduceMul, Nat.reduceLT, Nat.reduceLeDiff, Nat.reduceEqDiff, Nat.reduceBEq, reduceCtorEq, reduceIte, Int.reduceLE, Int.reduceLT, Int.reduceNeg, Int.reduceToNat, ht0', ht1', encDs_get c t htl, encD, hm]
      have hm4 : m ≤ 4 := by omega
      have hcl := colsTo_len hc q is k
      refine loop_at hs (σ := Nat) (fun j => j ≤ m) (fun j => m - j)
        (fun j => [(44, .int j), (43, .int m), (8, .int k), (15, .int k), (14, .int (min q.occ.length 4 : Nat)), (2, .clo (.func fn) bnd caps), (3, .ptr (H.nxt + 0) 1 0 0), (4, .ptr (H.nxt + 1) 6 0 0), (7, .rsl (H.nxt + 2) 1 0 (colsPart c q is k j).length)])
        (fun j => [some (.cells 1 [[.sl (c.map encD)]] 0), some (.cells 6 [encQ q] 0), some (.cells 1 (rowI (colsPart c q is k j)) 0)]) [some 0, some 1, some 2] 0 (by omega) rfl ?_ ?_ ?_
      · (try simp -implicitDefEqProofs only [push_cast, Nat.reduceAdd, Nat.reduceSub, Nat.reduceMul, Nat.reduceLT, Nat.reduceLeDiff, Nat.reduceEqDiff, Nat.reduceBEq, reduceCtorEq, reduceIte, Int.reduceLE, Int.reduceLT, Int.reduceNeg, Int.reduceToNat, colsPart_zero, encDs_pure, encIs_pure, encEs_pure, hb, hcp, encQ])
      · (try simp -implicitDefEqProofs only [push_cast, Nat.reduceAdd, Nat.reduceSub, Nat.reduceMul, Nat.reduceLT, Nat.reduceLeDiff, Nat.reduceEqDiff, Nat.reduceBEq, reduceCtorEq, reduceIte, Int.reduceLE, Int.reduceLT, Int.reduceNeg, Int.reduceToNat, colsPart_zero, encDs_pure, encIs_pure, encEs_pure, encQ, rowI_pure, rowI_one])
      intro j hj2
      have hjl : (colsPart c q is k j).length ≤ 20 := by rw [colsPart, List.length_append, colsFrom_len]; omega
      by_cases hj : j < m
      · have hj' : ((j : Int) < (m : Int)) = True := by simp; omega
        simp -implicitDefEqProofs only [push_cast, Nat.reduceAdd, Nat.reduceSub, Nat.reduceMul, Nat.reduceLT, Nat.reduceLeDiff, Nat.reduceEqDiff, Nat.reduceBEq, reduceCtorEq, reduceIte, Int.reduceLE, Int.reduceLT, Int.reduceNeg, Int.reduceToNat, hj', encQ]
        refine callq (Col_ok k j (by omega) (by omega) (by omega) (by omega)) ?_
        simp -implicitDefEqProofs only [push_cast, Nat.reduceAdd, Nat.reduceSub, Nat.reduceMul, Nat.reduceLT, Nat.reduceLeDiff, Nat.reduceEqDiff, Nat.reduceBEq, reduceCtorEq, reduceIte, Int.reduceLE, Int.reduceLT, Int.reduceNeg, Int.reduceToNat]
        refine ⟨by omega, ?_⟩
        rw [wrap64 (n := (j : Int) + 1) (by omega) (by omega)]
        refine next_at [some 0, some 1, some 4] (j + 1) (by omega) (by omega) rfl ?_ ?_
        · (try simp -implicitDefEqProofs only [push_cast, Nat.reduceAdd, Nat.reduceSub, Nat.reduceMul, Nat.reduceLT, Nat.reduceLeDiff, Nat.reduceEqDiff, Nat.reduceBEq, reduceCtorEq, reduceIte, Int.reduceLE, Int.reduceLT, Int.reduceNeg, Int.reduceToNat, colsPart_snoc, encDs_pure, encIs_pure, encEs_pure, hb, hcp, encQ])
        · (try simp -implicitDefEqProofs only [push_cast, Nat.reduceAdd, Nat.reduceSub, Nat.reduceMul, Nat.reduceLT, Nat.reduceLeDiff, Nat.reduceEqDiff, Nat.reduceBEq, reduceCtorEq, reduceIte, Int.reduceLE, Int.reduceLT, Int.reduceNeg, Int.reduceToNat, colsPart_snoc, encDs_pure, encIs_pure, encEs_pure, encQ, take_rowI _ _ (Nat.le_refl _), snocI, rowI_pure, rowI_one])
      · have hj' : ((j : Int) < (m : Int)) = False := by simp; omega
        obtain rfl : j = m := by omega
        have hsk : colsTo c q is (k + 1) = colsPart c q is k j := by
          rw [colsPart, colsTo_yes c q is k his, htab, hm, Int.toNat_natCast]
        simp -implicitDefEqProofs only [push_cast, Nat.reduceAdd, Nat.reduceSub, Nat.reduceMul, Nat.reduceLT, Nat.reduceLeDiff, Nat.reduceEqDiff, Nat.reduceBEq, reduceCtorEq, reduceIte, Int.reduceLE, Int.reduceLT, Int.reduceNeg, Int.reduceToNat, hj', encQ]
        rw [wrap64 (n := (k : Int) + 1) (by omega) (by omega)]
        refine next_at [some 0, some 1, some 2] (k + 1) (by omega) (by omega) rfl ?_ ?_
        · (try simp -implicitDefEqProofs only [push_cast, Nat.reduceAdd, Nat.reduceSub, Nat.reduceMul, Nat.reduceLT, Nat.reduceLeDiff, Nat.reduceEqDiff, Nat.reduceBEq, reduceCtorEq, reduceIte, Int.reduceLE, Int.reduceLT, Int.reduceNeg, Int.reduceToNat, hsk, encDs_pure, encIs_pure, encEs_pure, hb, hcp, encQ])
        · (try simp -implicitDefEqProofs only [push_cast, Nat.reduceAdd, Nat.reduceSub, Nat.reduceMul, Nat.reduceLT, Nat.reduceLeDiff, Nat.reduceEqDiff, Nat.reduceBEq, reduceCtorEq, reduceIte, Int.reduceLE, Int.reduceLT, Int.reduceNeg, Int.reduceToNat, hsk, encDs_pure, encIs_pure, encEs_pure, encQ, rowI_pure, rowI_one])
  · have hk' : ((k : Int) < ((min q.occ.length 4 : Nat) : Int)) = False := by simp; omega
    obtain rfl : k = min q.occ.length 4 := by omega
    simp -implicitDefEqProofs only [push_cast, Nat.reduceAdd, Nat.reduceSub, Nat.reduceMul, Nat.reduceLT, Nat.reduceLeDiff, Nat.reduceEqDiff, Nat.reduceBEq, reduceCtorEq, reduceIte, Int.reduceLE, Int.reduceLT, Int.reduceNeg, Int.reduceToNat, hk', encQ]
    (try simp -implicitDefEqProofs only [push_cast, Nat.reduceAdd, Nat.reduceSub, Nat.reduceMul, Nat.reduceLT, Nat.reduceLeDiff, Nat.reduceEqDiff, Nat.reduceBEq, reduceCtorEq, reduceIte, Int.reduceLE, Int.reduceLT, Int.reduceNeg, Int.reduceToNat])
    rw [take_rowI _ _ (Nat.le_refl _)]
    exact sealLL_pure _ _ _ (encIs_pure _)
end Go.Sim.Tryz
set_option linter.unusedSimpArgs false
set_option linter.unusedVariables false
set_option maxRecDepth 100000
namespace Go.Sim.Tryz
open Go Go.Sim
attribute [local push_cast] aops_cons aops_nil aopG_none aopG_some aopP_eq aopE_eq aopC_eq aopE?_eq aopC?_eq aopB_eq aopB?_eq abr anilq gopP_eq gopL_eq ahead_cons ahead_nil ahdG_none ahdG_some ahdP_eq ahdN_eq ahdC_eq ahdN?_eq ahdS_eq ahdS?_eq astoreN ahdC?_eq ghdP_eq ghdC_eq ghdC?_eq ghdZ_f ghdZ_t ahdI_eq ahdI?_eq ghdN?_eq aim_nil aim_cons isIn_nil isIn_none isIn_cons aimm aheP_eq aheA_eq aheC_eq aheC?_eq aheI?_eq aheA?_eq gheP_eq gheC_eq gheC?_eq gheZ_eq aheG_none aheG_some aheff_cons aheff_nil aapp gro_rsl gro_lit gro_esl opt_some opt_none no_eq acondT_true acondT_false acondT_lit aw_skip aw_region aw_regionD aw_seq aw_cond aw_block aw_loop aw_exit aw_label aw_ret thn_normal thn_exit thn_ret inb_normal inb_exit inb_ret qret_ret qret_normal gcond apure aeff anew acallee ares aresT aresL aresC ares1 qfin_eq ev ofV evL gokL tget tput_some tput_none initT abin aint aun aload afaddr aiaddr afield aindex aextract apick pickv_lit Bool.or_false Bool.false_or Bool.or_true Bool.true_or imp_self aslice chunk roomB abound aconv abuild afill splice alen aminmax abuiltin anil apart Value.oneCell' astore aappend srcEs abuildSlice asets isEq plus_obj plus_nxt plus_add plus_set plus_del IntKind.bits Option.map_some Option.map_none Option.bind_some Option.bind_none Option.join_some Option.getD_some Option.getD_none Option.toList Option.isSome_some List.getElem?_toArray List.getElem?_cons_zero List.getElem?_cons_succ List.getElem?_nil List.length_cons List.length_nil List.length_map List.head?_cons List.cons_append List.nil_append List.append_nil List.map_cons List.map_nil List.getD_cons_zero List.getD_cons_succ List.replicate_succ List.replicate_zero List.set_cons_zero List.set_cons_succ List.take_succ_cons List.take_zero List.drop_succ_cons List.drop_zero List.all_cons List.all_nil Nat.zero_add if_true if_false true_and and_true false_and and_false true_implies implies_true forall_const Bool.and_true Bool.true_and Bool.false_and Bool.and_false Bool.true_beq Bool.false_beq Bool.not_not beq_tt beq_ff Int.toNat_natCast decide_true decide_false Bool.not_true Bool.not_false Bool.true_eq_false Bool.false_eq_true false_implies exists_prop eq_self bne_self_eq_false beq_self_eq_true decide_eq_true_eq decide_eq_false_iff_not Bool.not_eq_true' Bool.not_eq_false' AV.int AV.bool AV.nilS ne_eq not_false_eq_true not_true_eq_false exists_eq_left exists_eq_left' Nat.lt_irrefl core_lit grd_lit acells_lit one_lit core_agg grd_agg acells_agg one_agg core_tup grd_tup acells_tup one_tup core_sl grd_sl acells_sl one_sl core_esl grd_esl acells_esl one_esl core_rsl grd_rsl acells_rsl one_rsl core_ptr grd_ptr acells_ptr one_ptr core_iptr grd_iptr acells_iptr one_iptr core_clo grd_clo acells_clo one_clo core_mp grd_mp acells_mp one_mp core_any grd_any acells_any one_any core_gv grd_gv fit_agg fit_lit fit_sl fit_esl fit_rsl fit_ptr fit_iptr fit_clo fit_mp retq_ret retq_normal set_nxt set_set plus_obj_set plus_set_set app_get0 app_get app_set0 app_set List.append_assoc List.length_append List.length_set Nat.lt_add_one Nat.add_lt_add_iff_right Nat.lt_add_right_iff_pos Nat.add_lt_add_iff_left List.mem_cons List.not_mem_nil or_false forall_eq forall_eq_or_imp lt_s0 lt_s1 lt_s2 lt_s3 lt_s4 lt_s5 lt_s6 lt_s7 lt_s8 pickv_t pickv_f or_nand or_nand2 imp_and_l SealT SealOs sealO_cells sl_lit sl_any sl_agg sl_tup sl_sl sl_rsl slO sl_esl sl_nil sl_eslesl sl_eslnil sl_rslrsl sl_eslrsl sl_nilrsl sl_ptr sl_iptr sl_ptri slP sl_clo sl_mp sl_gv sll_nil sll_cons slll_nil slll_cons shut_eq shutO Option.join_none Fn.func.injEq and_self sealL_self sealLL_self seal_self PureL PureLL Pure Nat.le_refl Nat.zero_le AV.lit.injEq Value.int.injEq Value.bool.injEq false_or or_true true_or Int.natCast_zero Int.ofNat_zero Int.cast_ofNat_Int Int.natCast_add Int.natCast_one Option.some.injEq piL_is sop_nil sop_cons sop_none sop_some sopO_some sop_new shut_pi shutL_nil shutL_cons exQ_exit exQ_ret exQ_normal Go.Sim.Tryz.ty_load1 Go.Sim.Tryz.ty_zero1 Go.Sim.Tryz.ty_load2 Go.Sim.Tryz.ty_zero2 Go.Sim.Tryz.ty_und2 Go.Sim.Tryz.ty_load3 Go.Sim.Tryz.ty_zero3 Go.Sim.Tryz.ty_und3 Go.Sim.Tryz.ty_load4 Go.Sim.Tryz.ty_zero4 Go.Sim.Tryz.ty_und4 Go.Sim.Tryz.ty_load5 Go.Sim.Tryz.ty_zero5 Go.Sim.Tryz.ty_und5 Go.Sim.Tryz.ty_load9 Go.Sim.Tryz.ty_zero9 Go.Sim.Tryz.ty_und9 Go.Sim.Tryz.ty_load22 Go.Sim.Tryz.ty_zero22 Go.Sim.Tryz.ty_el22 Go.Sim.Tryz.ty_zeroE22 Go.Sim.Tryz.ty_load24 Go.Sim.Tryz.ty_zero24 Go.Sim.Tryz.ty_fld24_0 Go.Sim.Tryz.ty_part24_0 Go.Sim.Tryz.ty_struct24 Go.Sim.Tryz.ty_load25 Go.Sim.Tryz.ty_zero25 Go.Sim.Tryz.ty_el25 Go.Sim.Tryz.ty_zeroE25 Go.Sim.Tryz.ty_load26 Go.Sim.Tryz.ty_zero26 Go.Sim.Tryz.ty_el26 Go.Sim.Tryz.ty_zeroE26 Go.Sim.Tryz.ty_load28 Go.Sim.Tryz.ty_zero28 Go.Sim.Tryz.ty_fld28_0 Go.Sim.Tryz.ty_part28_0 Go.Sim.Tryz.ty_fld28_1 Go.Sim.Tryz.ty_part28_1 Go.Sim.Tryz.ty_fld28_2 Go.Sim.Tryz.ty_part28_2 Go.Sim.Tryz.ty_fld28_3 Go.Sim.Tryz.ty_part28_3 Go.Sim.Tryz.ty_fld28_4 Go.Sim.Tryz.ty_part28_4 Go.Sim.Tryz.ty_fld28_5 Go.Sim.Tryz.ty_part28_5 Go.Sim.Tryz.ty_struct28 Go.Sim.Tryz.ty_load36 Go.Sim.Tryz.ty_zero36 Go.Sim.Tryz.ty_fld36_0 Go.Sim.Tryz.ty_part36_0 Go.Sim.Tryz.ty_fld36_1 Go.Sim.Tryz.ty_part36_1 Go.Sim.Tryz.ty_struct36 Go.Sim.Tryz.ty_load38 Go.Sim.Tryz.ty_zero38 Go.Sim.Tryz.ty_fld38_0 Go.Sim.Tryz.ty_part38_0 Go.Sim.Tryz.ty_fld38_1 Go.Sim.Tryz.ty_part38_1 Go.Sim.Tryz.ty_fld38_2 Go.Sim.Tryz.ty_part38_2 Go.Sim.Tryz.ty_fld38_3 Go.Sim.Tryz.ty_part38_3 Go.Sim.Tryz.ty_struct38 Go.Sim.Tryz.ty_load48 Go.Sim.Tryz.ty_zero48 Go.Sim.Tryz.ty_el48 Go.Sim.Tryz.ty_zeroE48 Go.Sim.Tryz.ty_load51 Go.Sim.Tryz.ty_zero51 Go.Sim.Tryz.ty_arr51 Go.Sim.Tryz.ty_part51_0 Go.Sim.Tryz.ty_part51_1 Go.Sim.Tryz.ty_struct51 Go.Sim.Tryz.ty_load59 Go.Sim.Tryz.ty_zero59 Go.Sim.Tryz.ty_fld59_0 Go.Sim.Tryz.ty_part59_0 Go.Sim.Tryz.ty_fld59_1 Go.Sim.Tryz.ty_part59_1 Go.Sim.Tryz.ty_struct59 Go.Sim.Tryz.ty_load60 Go.Sim.Tryz.ty_zero60 Go.Sim.Tryz.ty_el60 Go.Sim.Tryz.ty_zeroE60 Go.Sim.Tryz.ty_load62 Go.Sim.Tryz.ty_zero62 Go.Sim.Tryz.ty_fld62_0 Go.Sim.Tryz.ty_part62_0 Go.Sim.Tryz.ty_struct62 Go.Sim.Tryz.ty_load67 Go.Sim.Tryz.ty_zero67 Go.Sim.Tryz.ty_load68 Go.Sim.Tryz.ty_zero68 Go.Sim.Tryz.ty_load75 Go.Sim.Tryz.ty_zero75 Go.Sim.Tryz.ty_load76 Go.Sim.Tryz.ty_zero76 Go.Sim.Tryz.ty_und76 Go.Sim.Tryz.ty_load82 Go.Sim.Tryz.ty_zero82 Go.Sim.Tryz.ty_und82 Go.Sim.Tryz.ty_load85 Go.Sim.Tryz.ty_zero85 Go.Sim.Tryz.ty_und85 Go.Sim.Tryz.ty_load89 Go.Sim.Tryz.ty_zero89 Go.Sim.Tryz.ty_el89 Go.Sim.Tryz.ty_zeroE89 Go.Sim.Tryz.ty_load90 Go.Sim.Tryz.ty_zero90 Go.Sim.Tryz.ty_el90 Go.Sim.Tryz.ty_zeroE90 Go.Sim.Tryz.ty_load93 Go.Sim.Tryz.ty_zero93 Go.Sim.Tryz.ty_load98 Go.Sim.Tryz.ty_zero98 Go.Sim.Tryz.ty_fld98_0 Go.Sim.Tryz.ty_part98_0 Go.Sim.Tryz.ty_fld98_1 Go.Sim.Tryz.ty_part98_1 Go.Sim.Tryz.ty_fld98_2 Go.Sim.Tryz.ty_part98_2 Go.Sim.Tryz.ty_struct98 Go.Sim.Tryz.ty_load100 Go.Sim.Tryz.ty_zero100 Go.Sim.Tryz.ty_load106 Go.Sim.Tryz.ty_zero106 Go.Sim.Tryz.ty_load110 Go.Sim.Tryz.ty_zero110 Go.Sim.Tryz.ty_und110 Go.Sim.Tryz.ty_load118 Go.Sim.Tryz.ty_zero118 Go.Sim.Tryz.ty_und118 Go.Sim.Tryz.ty_load121 Go.Sim.Tryz.ty_zero121 Go.Sim.Tryz.ty_load128 Go.Sim.Tryz.ty_zero128 Go.Sim.Tryz.ty_und128 Go.Sim.Tryz.ty_load132 Go.Sim.Tryz.ty_zero132 encE_mk encE_take encE_len encV encE_one encEs_pure encE_pure

theorem shift_succ (s : Int) (i : Nat) : bshr .i64 (s / 2 ^ i) 1 = s / 2 ^ (i + 1) := by
  rw [bshr_one, Int.pow_succ, Int.ediv_ediv_of_nonneg (Int.le_of_lt (Int.pow_pos (by omega)))]
theorem Bit_ok (s : Int) (o : Nat) (ho : o ≤ 1000) : Quiet Go.Proofs.Tryz.prog 25 [.int s, .int o] (.bool (bitI s o)) := by
  refine quiet_of (rs := #[.tmp 4]) Go.Proofs.Tryz.func25 rfl rfl rfl mixed rfl rfl fun H hs => ?_
  simp -implicitDefEqProofs only [push_cast, Nat.reduceAdd, Nat.reduceSub, Nat.reduceMul, Nat.reduceLT, Nat.reduceLeDiff, Nat.reduceEqDiff, Nat.reduceBEq, reduceCtorEq, reduceIte, Int.reduceLE, Int.reduceLT, Int.reduceNeg, Int.reduceToNat]
  refine loop_rule hs (σ := Nat) (fun i => i ≤ o) (fun i => o - i)
    (fun i => [(0, .int (s / 2 ^ i)), (1, .int o), (5, .int i)]) (fun _ => []) 0 (by omega) ?_ ?_ ?_
  · (try simp -implicitDefEqProofs only [push_cast, Nat.reduceAdd, Nat.reduceSub, Nat.reduceMul, Nat.reduceLT, Nat.reduceLeDiff, Nat.reduceEqDiff, Nat.reduceBEq, reduceCtorEq, reduceIte, Int.reduceLE, Int.reduceLT, Int.reduceNeg, Int.reduceToNat])
    rw [Int.pow_zero, Int.ediv_one]
  · (try simp -implicitDefEqProofs only [push_cast, Nat.reduceAdd, Nat.reduceSub, Nat.reduceMul, Nat.reduceLT, Nat.reduceLeDiff, Nat.reduceEqDiff, Nat.reduceBEq, reduceCtorEq, reduceIte, Int.reduceLE, Int.reduceLT, Int.reduceNeg, Int.reduceToNat])
  · rintro i h2
    by_cases hi : i < o
    · have hi' : ((i : Int) < (o : Int)) = True := by simp; omega
      simp -implicitDefEqProofs only [push_cast, Nat.reduceAdd, Nat.reduceSub, Nat.reduceMul, Nat.reduceLT, Nat.reduceLeDiff, Nat.reduceEqDiff, Nat.reduceBEq, reduceCtorEq, reduceIte, Int.reduceLE, Int.reduceLT, Int.reduceNeg, Int.reduceToNat, hi']
      rw [wrap64 (n := (i : Int) + 1) (by omega) (by omega), shift_succ]
      refine next_intro (i + 1) (by omega) (by omega) ?_ ?_
      · (try simp -implicitDefEqProofs only [push_cast, Nat.reduceAdd, Nat.reduceSub, Nat.reduceMul, Nat.reduceLT, Nat.reduceLeDiff, Nat.reduceEqDiff, Nat.reduceBEq, reduceCtorEq, reduceIte, Int.reduceLE, Int.reduceLT, Int.reduceNeg, Int.reduceToNat])
      · (try simp -implicitDefEqProofs only [push_cast, Nat.reduceAdd, Nat.reduceSub, Nat.reduceMul, Nat.reduceLT, Nat.reduceLeDiff, Nat.reduceEqDiff, Nat.reduceBEq, reduceCtorEq, reduceIte, Int.reduceLE, Int.reduceLT, Int.reduceNeg, Int.reduceToNat])
    · have hi' : ((i : Int) < (o : Int)) = False := by simp; omega
      obtain rfl : i = o := by omega
      simp -implicitDefEqProofs only [push_cast, Nat.reduceAdd, Nat.reduceSub, Nat.reduceMul, Nat.reduceLT, Nat.reduceLeDiff, Nat.reduceEqDiff, Nat.reduceBEq, reduceCtorEq, reduceIte, Int.reduceLE, Int.reduceLT, Int.reduceNeg, Int.reduceToNat, hi']
      (try simp -implicitDefEqProofs only [push_cast, Nat.reduceAdd, Nat.reduceSub, Nat.reduceMul, Nat.reduceLT, Nat.reduceLeDiff, Nat.reduceEqDiff, Nat.reduceBEq, reduceCtorEq, reduceIte, Int.reduceLE, Int.reduceLT, Int.reduceNeg, Int.reduceToNat])
      rw [band_one]
      rfl
theorem Place_ok (l : List Int) (hl : l.length ≤ 1000000) (x : Int) : Quiet Go.Proofs.Tryz.prog 75 [.sl (l.map encI), .int x] (.int (idx (fun c => decide (x = c)) l)) := by
  refine quiet_of (rs := #[.tmp 4]) Go.Proofs.Tryz.func75 rfl rfl rfl mixed rfl rfl fun H hs => ?_
  simp -implicitDefEqProofs only [push_cast, Nat.reduceAdd, Nat.reduceSub, Nat.reduceMul, Nat.reduceLT, Nat.reduceLeDiff, Nat.reduceEqDiff, Nat.reduceBEq, reduceCtorEq, reduceIte, Int.reduceLE, Int.reduceLT, Int.reduceNeg, Int.reduceToNat]
  refine loop_rule hs (σ := Nat) (fun i => i ≤ l.length ∧ ∀ (j : Nat) (h : j < l.length), j < i → decide (x = l[j]) = false) (fun i => l.length - i)
    (fun i => [(0, .sl (l.map encI)), (1, .int x), (5, .int i)]) (fun _ => []) 0 ⟨by omega, fun j _ h => by omega⟩ ?_ ?_ ?_
  · (try simp -implicitDefEqProofs only [push_cast, Nat.reduceAdd, Nat.reduceSub, Nat.reduceMul, Nat.reduceLT, Nat.reduceLeDiff, Nat.reduceEqDiff, Nat.reduceBEq, reduceCtorEq, reduceIte, Int.reduceLE, Int.reduceLT, Int.reduceNeg, Int.reduceToNat, encIs_pure])
  · (try simp -implicitDefEqProofs only [push_cast, Nat.reduceAdd, Nat.reduceSub, Nat.reduceMul, Nat.reduceLT, Nat.reduceLeDiff, Nat.reduceEqDiff, Nat.reduceBEq, reduceCtorEq, reduceIte, Int.reduceLE, Int.reduceLT, Int.reduceNeg, Int.reduceToNat])
  · rintro i ⟨h2, h3⟩
    by_cases hi : i < l.length
    · have hi' : ((i : Int) < (l.length : Int)) = True := by simp; omega
      have hi0 : (0 ≤ (i : Int)) = True := by simp
      simp -implicitDefEqProofs only [push_cast, Nat.reduceAdd, Nat.reduceSub, Nat.reduceMul, Nat.reduceLT, Nat.reduceLeDiff, Nat.reduceEqDiff, Nat.reduceBEq, reduceCtorEq, reduceIte, Int.reduceLE, Int.reduceLT, Int.reduceNeg, Int.reduceToNat, hi', hi0, encIs_get l i hi, encI]
      refine ⟨fun h => ?_, fun h => ?_⟩
      · (try simp -implicitDefEqProofs only [push_cast, Nat.reduceAdd, Nat.reduceSub, Nat.reduceMul, Nat.reduceLT, Nat.reduceLeDiff, Nat.reduceEqDiff, Nat.reduceBEq, reduceCtorEq, reduceIte, Int.reduceLE, Int.reduceLT, Int.reduceNeg, Int.reduceToNat])
        exact (idx_hit (p := fun c => decide (x = c)) hi h3 (by simpa using h.symm)).symm
      · rw [wrap64 (n := (i : Int) + 1) (by omega) (by omega)]
        refine next_intro (i + 1) ⟨by omega, fun j hj hji => ?_⟩ (by omega) ?_ ?_
        · rcases Nat.lt_or_ge j i with h4 | h4
          · simpa using h3 j hj h4
          · obtain rfl : j = i := by omega
            exact fun e => h e.symm
        · (try simp -implicitDefEqProofs only [push_cast, Nat.reduceAdd, Nat.reduceSub, Nat.reduceMul, Nat.reduceLT, Nat.reduceLeDiff, Nat.reduceEqDiff, Nat.reduceBEq, reduceCtorEq, reduceIte, Int.reduceLE, Int.reduceLT, Int.reduceNeg, Int.reduceToNat, encIs_pure])
        · (try simp -implicitDefEqProofs only [push_cast, Nat.reduceAdd, Nat.reduceSub, Nat.reduceMul, Nat.reduceLT, Nat.reduceLeDiff, Nat.reduceEqDiff, Nat.reduceBEq, reduceCtorEq, reduceIte, Int.reduceLE, Int.reduceLT, Int.reduceNeg, Int.reduceToNat])
    · have hi' : ((i : Int) < (l.length : Int)) = False := by simp; omega
      simp -implicitDefEqProofs only [push_cast, Nat.reduceAdd, Nat.reduceSub, Nat.reduceMul, Nat.reduceLT, Nat.reduceLeDiff, Nat.reduceEqDiff, Nat.reduceBEq, reduceCtorEq, reduceIte, Int.reduceLE, Int.reduceLT, Int.reduceNeg, Int.reduceToNat, hi']
      (try simp -implicitDefEqProofs only [push_cast, Nat.reduceAdd, Nat.reduceSub, Nat.reduceMul, Nat.reduceLT, Nat.reduceLeDiff, Nat.reduceEqDiff, Nat.reduceBEq, reduceCtorEq, reduceIte, Int.reduceLE, Int.reduceLT, Int.reduceNeg, Int.reduceToNat])
      exact (idx_miss (p := fun c => decide (x = c)) fun j hj => h3 j hj (by omega)).symm
theorem partS_ok (a s : Int) : Quiet Go.Proofs.Tryz.prog 76 [.int a, .int s] (.bool (holdsI s a)) := by
  refine quiet_of (rs := #[.tmp 4]) Go.Proofs.Tryz.func76 rfl rfl rfl mixed rfl rfl fun H hs => ?_
  simp -implicitDefEqProofs only [push_cast, Nat.reduceAdd, Nat.reduceSub, Nat.reduceMul, Nat.reduceLT, Nat.reduceLeDiff, Nat.reduceEqDiff, Nat.reduceBEq, reduceCtorEq, reduceIte, Int.reduceLE, Int.reduceLT, Int.reduceNeg, Int.reduceToNat]
  refine loop_rule hs (σ := Nat) (fun i => i ≤ 4 ∧ ∀ j, j < i → bitI a j = true → bitI s j = true) (fun i => 4 - i)
    (fun i => [(0, .int a), (1, .int s), (5, .int i)]) (fun _ => []) 0 ⟨by omega, fun j h => by omega⟩ ?_ ?_ ?_
  · (try simp -implicitDefEqProofs only [push_cast, Nat.reduceAdd, Nat.reduceSub, Nat.reduceMul, Nat.reduceLT, Nat.reduceLeDiff, Nat.reduceEqDiff, Nat.reduceBEq, reduceCtorEq, reduceIte, Int.reduceLE, Int.reduceLT, Int.reduceNeg, Int.reduceToNat])
  · (try simp -implicitDefEqProofs only [push_cast, Nat.reduceAdd, Nat.reduceSub, Nat.reduceMul, Nat.reduceLT, Nat.reduceLeDiff, Nat.reduceEqDiff, Nat.reduceBEq, reduceCtorEq, reduceIte, Int.reduceLE, Int.reduceLT, Int.reduceNeg, Int.reduceToNat])
  · rintro i ⟨h2, h3⟩
    by_cases hi : i < 4
    · have hi' : ((i : Int) < 4) = True := by simp; omega
      simp -implicitDefEqProofs only [push_cast, Nat.reduceAdd, Nat.reduceSub, Nat.reduceMul, Nat.reduceLT, Nat.reduceLeDiff, Nat.reduceEqDiff, Nat.reduceBEq, reduceCtorEq, reduceIte, Int.reduceLE, Int.reduceLT, Int.reduceNeg, Int.reduceToNat, hi']
      refine callq (Bit_ok a i (by omega)) ?_
      simp -implicitDefEqProofs only [push_cast, Nat.reduceAdd, Nat.reduceSub, Nat.reduceMul, Nat.reduceLT, Nat.reduceLeDiff, Nat.reduceEqDiff, Nat.reduceBEq, reduceCtorEq, reduceIte, Int.reduceLE, Int.reduceLT, Int.reduceNeg, Int.reduceToNat]
      refine callq (Bit_ok s i (by omega)) ?_
      simp -implicitDefEqProofs only [push_cast, Nat.reduceAdd, Nat.reduceSub, Nat.reduceMul, Nat.reduceLT, Nat.reduceLeDiff, Nat.reduceEqDiff, Nat.reduceBEq, reduceCtorEq, reduceIte, Int.reduceLE, Int.reduceLT, Int.reduceNeg, Int.reduceToNat]
      refine ⟨fun h => ?_, fun h => ?_⟩
      · (try simp -implicitDefEqProofs only [push_cast, Nat.reduceAdd, Nat.reduceSub, Nat.reduceMul, Nat.reduceLT, Nat.reduceLeDiff, Nat.reduceEqDiff, Nat.reduceBEq, reduceCtorEq, reduceIte, Int.reduceLE, Int.reduceLT, Int.reduceNeg, Int.reduceToNat])
        simp only [Bool.and_eq_true, Bool.not_eq_true'] at h
        symm
        rw [Bool.eq_false_iff]
        intro hh
        have := (holdsI_iff s a).1 hh i hi h.1
        rw [this] at h
        cases h.2
      · rw [wrap64 (n := (i : Int) + 1) (by omega) (by omega)]
        refine next_intro (i + 1) ⟨by omega, fun j hj ha => ?_⟩ (by omega) ?_ ?_
        · rcases Nat.lt_or_ge j i with h4 | h4
          · exact h3 j h4 ha
          · obtain rfl : j = i := by omega
            rw [ha] at h
            simpa using h
        · (try simp -implicitDefEqProofs only [push_cast, Nat.reduceAdd, Nat.reduceSub, Nat.reduceMul, Nat.reduceLT, Nat.reduceLeDiff, Nat.reduceEqDiff, Nat.reduceBEq, reduceCtorEq, reduceIte, Int.reduceLE, Int.reduceLT, Int.reduceNeg, Int.reduceToNat])
        · (try simp -implicitDefEqProofs only [push_cast, Nat.reduceAdd, Nat.reduceSub, Nat.reduceMul, Nat.reduceLT, Nat.reduceLeDiff, Nat.reduceEqDiff, Nat.reduceBEq, reduceCtorEq, reduceIte, Int.reduceLE, Int.reduceLT, Int.reduceNeg, Int.reduceToNat])
    · have hi' : ((i : Int) < 4) = False := by simp; omega
      simp -implicitDefEqProofs only [push_cast, Nat.reduceAdd, Nat.reduceSub, Nat.reduceMul, Nat.reduceLT, Nat.reduceLeDiff, Nat.reduceEqDiff, Nat.reduceBEq, reduceCtorEq, reduceIte, Int.reduceLE, Int.reduceLT, Int.reduceNeg, Int.reduceToNat, hi']
      (try simp -implicitDefEqProofs only [push_cast, Nat.reduceAdd, Nat.reduceSub, Nat.reduceMul, Nat.reduceLT, Nat.reduceLeDiff, Nat.reduceEqDiff, Nat.reduceBEq, reduceCtorEq, reduceIte, Int.reduceLE, Int.reduceLT, Int.reduceNeg, Int.reduceToNat])
      symm
      rw [holdsI_iff]
      exact fun j hj => h3 j (by omega)
end Go.Sim.Tryz
set_option linter.unusedSimpArgs false
set_option linter.unusedVariables false
set_option maxRecDepth 100000
namespace Go.Sim.Tryz
open Go Go.Sim
attribute [local push_cast] aops_cons aops_nil aopG_none aopG_some aopP_eq aopE_eq aopC_eq aopE?_eq aopC?_eq aopB_eq aopB?_eq abr anilq gopP_eq gopL_eq ahead_cons ahead_nil ahdG_none ahdG_some ahdP_eq ahdN_eq ahdC_eq ahdN?_eq ahdS_eq ahdS?_eq astoreN ahdC?_eq ghdP_eq ghdC_eq ghdC?_eq ghdZ_f ghdZ_t ahdI_eq ahdI?_eq ghdN?_eq aim_nil aim_cons isIn_nil isIn_none isIn_cons aimm aheP_eq aheA_eq aheC_eq aheC?_eq aheI?_eq aheA?_eq gheP_eq gheC_eq gheC?_eq gheZ_eq aheG_none aheG_some aheff_cons aheff_nil aapp gro_rsl gro_lit gro_esl opt_some opt_none no_eq acondT_true acondT_false acondT_lit aw_skip aw_region aw_regionD aw_seq aw_cond aw_block aw_loop aw_exit aw_label aw_ret thn_normal thn_exit thn_ret inb_normal inb_exit inb_ret qret_ret qret_normal gcond apure aeff anew acallee ares aresT aresL aresC ares1 qfin_eq ev ofV evL gokL tget tput_some tput_none initT abin aint aun aload afaddr aiaddr afield aindex aextract apick pickv_lit Bool.or_false Bool.false_or Bool.or_true Bool.true_or imp_self aslice chunk roomB abound aconv abuild afill splice alen aminmax abuiltin anil apart Value.oneCell' astore aappend srcEs abuildSlice asets isEq plus_obj plus_nxt plus_add plus_set plus_del IntKind.bits Option.map_some Option.map_none Option.bind_some Option.bind_none Option.join_some Option.getD_some Option.getD_none Option.toList Option.isSome_some List.getElem?_toArray List.getElem?_cons_zero List.getElem?_cons_succ List.getElem?_nil List.length_cons List.length_nil List.length_map List.head?_cons List.cons_append List.nil_append List.append_nil List.map_cons List.map_nil List.getD_cons_zero List.getD_cons_succ List.replicate_succ List.replicate_zero List.set_cons_zero List.set_cons_succ List.take_succ_cons List.take_zero List.drop_succ_cons List.drop_zero List.all_cons List.all_nil Nat.zero_add if_true if_false true_and and_true false_and and_false true_implies implies_true forall_const Bool.and_true Bool.true_and Bool.false_and Bool.and_false Bool.true_beq Bool.false_beq Bool.not_not beq_tt beq_ff Int.toNat_natCast decide_true decide_false Bool.not_true Bool.not_false Bool.true_eq_false Bool.false_eq_true false_implies exists_prop eq_self bne_self_eq_false beq_self_eq_true decide_eq_true_eq decide_eq_false_iff_not Bool.not_eq_true' Bool.not_eq_false' AV.int AV.bool AV.nilS ne_eq not_false_eq_true not_true_eq_false exists_eq_left exists_eq_left' Nat.lt_irrefl core_lit grd_lit acells_lit one_lit core_agg grd_agg acells_agg one_agg core_tup grd_tup acells_tup one_tup core_sl grd_sl acells_sl one_sl core_esl grd_esl acells_esl one_esl core_rsl grd_rsl acells_rsl one_rsl core_ptr grd_ptr acells_ptr one_ptr core_iptr grd_iptr acells_iptr one_iptr core_clo grd_clo acells_clo one_clo core_mp grd_mp acells_mp one_mp core_any grd_any acells_any one_any core_gv grd_gv fit_agg fit_lit fit_sl fit_esl fit_rsl fit_ptr fit_iptr fit_clo fit_mp retq_ret retq_normal set_nxt set_set plus_obj_set plus_set_set app_get0 app_get app_set0 app_set List.append_assoc List.length_append List.length_set Nat.lt_add_one Nat.add_lt_add_iff_right Nat.lt_add_right_iff_pos Nat.add_lt_add_iff_left List.mem_cons List.not_mem_nil or_false forall_eq forall_eq_or_imp lt_s0 lt_s1 lt_s2 lt_s3 lt_s4 lt_s5 lt_s6 lt_s7 lt_s8 pickv_t pickv_f or_nand or_nand2 imp_and_l SealT SealOs sealO_cells sl_lit sl_any sl_agg sl_tup sl_sl sl_rsl slO sl_esl sl_nil sl_eslesl sl_eslnil sl_rslrsl sl_eslrsl sl_nilrsl sl_ptr sl_iptr sl_ptri slP sl_clo sl_mp sl_gv sll_nil sll_cons slll_nil slll_cons shut_eq shutO Option.join_none Fn.func.injEq and_self sealL_self sealLL_self seal_self PureL PureLL Pure Nat.le_refl Nat.zero_le AV.lit.injEq Value.int.injEq Value.bool.injEq false_or or_true true_or Int.natCast_zero Int.ofNat_zero Int.cast_ofNat_Int Int.natCast_add Int.natCast_one Option.some.injEq piL_is sop_nil sop_cons sop_none sop_some sopO_some sop_new shut_pi shutL_nil shutL_cons exQ_exit exQ_ret exQ_normal Go.Sim.Tryz.ty_load1 Go.Sim.Tryz.ty_zero1 Go.Sim.Tryz.ty_load2 Go.Sim.Tryz.ty_zero2 Go.Sim.Tryz.ty_und2 Go.Sim.Tryz.ty_load3 Go.Sim.Tryz.ty_zero3 Go.Sim.Tryz.ty_und3 Go.Sim.Tryz.ty_load4 Go.Sim.Tryz.ty_zero4 Go.Sim.Tryz.ty_und4 Go.Sim.Tryz.ty_load5 Go.Sim.Tryz.ty_zero5 Go.Sim.Tryz.ty_und5 Go.Sim.Tryz.ty_load9 Go.Sim.Tryz.ty_zero9 Go.Sim.Tryz.ty_und9 Go.Sim.Tryz.ty_load22 Go.Sim.Tryz.ty_zero22 Go.Sim.Tryz.ty_el22 Go.Sim.Tryz.ty_zeroE22 Go.Sim.Tryz.ty_load24 Go.Sim.Tryz.ty_zero24 Go.Sim.Tryz.ty_fld24_0 Go.Sim.Tryz.ty_part24_0 Go.Sim.Tryz.ty_struct24 Go.Sim.Tryz.ty_load25 Go.Sim.Tryz.ty_zero25 Go.Sim.Tryz.ty_el25 Go.Sim.Tryz.ty_zeroE25 Go.Sim.Tryz.ty_load26 Go.Sim.Tryz.ty_zero26 Go.Sim.Tryz.ty_el26 Go.Sim.Tryz.ty_zeroE26 Go.Sim.Tryz.ty_load28 Go.Sim.Tryz.ty_zero28 Go.Sim.Tryz.ty_fld28_0 Go.Sim.Tryz.ty_part28_0 Go.Sim.Tryz.ty_fld28_1 Go.Sim.Tryz.ty_part28_1 Go.Sim.Tryz.ty_fld28_2 Go.Sim.Tryz.ty_part28_2 Go.Sim.Tryz.ty_fld28_3 Go.Sim.Tryz.ty_part28_3 Go.Sim.Tryz.ty_fld28_4 Go.Sim.Tryz.ty_part28_4 Go.Sim.Tryz.ty_fld28_5 Go.Sim.Tryz.ty_part28_5 Go.Sim.Tryz.ty_struct28 Go.Sim.Tryz.ty_load36 Go.Sim.Tryz.ty_zero36 Go.Sim.Tryz.ty_fld36_0 Go.Sim.Tryz.ty_part36_0 Go.Sim.Tryz.ty_fld36_1 Go.Sim.Tryz.ty_part36_1 Go.Sim.Tryz.ty_struct36 Go.Sim.Tryz.ty_load38 Go.Sim.Tryz.ty_zero38 Go.Sim.Tryz.ty_fld38_0 Go.Sim.Tryz.ty_part38_0 Go.Sim.Tryz.ty_fld38_1 Go.Sim.Tryz.ty_part38_1 Go.Sim.Tryz.ty_fld38_2 Go.Sim.Tryz.ty_part38_2 Go.Sim.Tryz.ty_fld38_3 Go.Sim.Tryz.ty_part38_3 Go.Sim.Tryz.ty_struct38 Go.Sim.Tryz.ty_load48 Go.Sim.Tryz.ty_zero48 Go.Sim.Tryz.ty_el48 Go.Sim.Tryz.ty_zeroE48 Go.Sim.Tryz.ty_load51 Go.Sim.Tryz.ty_zero51 Go.Sim.Tryz.ty_arr51 Go.Sim.Tryz.ty_part51_0 Go.Sim.Tryz.ty_part51_1 Go.Sim.Tryz.ty_struct51 Go.Sim.Tryz.ty_load59 Go.Sim.Tryz.ty_zero59 Go.Sim.Tryz.ty_fld59_0 Go.Sim.Tryz.ty_part59_0 Go.Sim.Tryz.ty_fld59_1 Go.Sim.Tryz.ty_part59_1 Go.Sim.Tryz.ty_struct59 Go.Sim.Tryz.ty_load60 Go.Sim.Tryz.ty_zero60 Go.Sim.Tryz.ty_el60 Go.Sim.Tryz.ty_zeroE60 Go.Sim.Tryz.ty_load62 Go.Sim.Tryz.ty_zero62 Go.Sim.Tryz.ty_fld62_0 Go.Sim.Tryz.ty_part62_0 Go.Sim.Tryz.ty_struct62 Go.Sim.Tryz.ty_load67 Go.Sim.Tryz.ty_zero67 Go.Sim.Tryz.ty_load68 Go.Sim.Tryz.ty_zero68 Go.Sim.Tryz.ty_load75 Go.Sim.Tryz.ty_zero75 Go.Sim.Tryz.ty_load76 Go.Sim.Tryz.ty_zero76 Go.Sim.Tryz.ty_und76 Go.Sim.Tryz.ty_load82 Go.Sim.Tryz.ty_zero82 Go.Sim.Tryz.ty_und82 Go.Sim.Tryz.ty_load85 Go.Sim.Tryz.ty_zero85 Go.Sim.Tryz.ty_und85 Go.Sim.Tryz.ty_load89 Go.Sim.Tryz.ty_zero89 Go.Sim.Tryz.ty_el89 Go.Sim.Tryz.ty_zeroE89 Go.Sim.Tryz.ty_load90 Go.Sim.Tryz.ty_zero90 Go.Sim.Tryz.ty_el90 Go.Sim.Tryz.ty_zeroE90 Go.Sim.Tryz.ty_load93 Go.Sim.Tryz.ty_zero93 Go.Sim.Tryz.ty_load98 Go.Sim.Tryz.ty_zero98 Go.Sim.Tryz.ty_fld98_0 Go.Sim.Tryz.ty_part98_0 Go.Sim.Tryz.ty_fld98_1 Go.Sim.Tryz.ty_part98_1 Go.Sim.Tryz.ty_fld98_2 Go.Sim.Tryz.ty_part98_2 Go.Sim.Tryz.ty_struct98 Go.Sim.Tryz.ty_load100 Go.Sim.Tryz.ty_zero100 Go.Sim.Tryz.ty_load106 Go.Sim.Tryz.ty_zero106 Go.Sim.Tryz.ty_load110 Go.Sim.Tryz.ty_zero110 Go.Sim.Tryz.ty_und110 Go.Sim.Tryz.ty_load118 Go.Sim.Tryz.ty_zero118 Go.Sim.Tryz.ty_und118 Go.Sim.Tryz.ty_load121 Go.Sim.Tryz.ty_zero121 Go.Sim.Tryz.ty_load128 Go.Sim.Tryz.ty_zero128 Go.Sim.Tryz.ty_und128 Go.Sim.Tryz.ty_load132 Go.Sim.Tryz.ty_zero132 encE_mk encE_take encE_len encV encE_one encEs_pure encE_pure

theorem catMay_split (c : List Df) : catMay c = (c.all Df.may && (decide (1 ≤ (c.length : Int)) && decide ((c.length : Int) ≤ 4))) := by
  unfold catMay
  have e1 : decide ((1 : Int) ≤ (c.length : Int)) = decide (1 ≤ c.length) := by rw [decide_eq_decide]; omega
  have e2 : decide ((c.length : Int) ≤ 4) = decide (c.length ≤ 4) := by rw [decide_eq_decide]; omega
  rw [e1, e2, Bool.and_comm]
theorem all_snoc (c : List Df) (i : Nat) (h : i < c.length) : (c.take (i + 1)).all Df.may = ((c.take i).all Df.may && c[i].may) := by
  rw [List.take_succ_eq_append_getElem h, List.all_append, List.all_cons, List.all_nil, Bool.and_true]
theorem MayC_ok (c : List Df) (hl : c.length ≤ 1000000) : Quiet Go.Proofs.Tryz.prog 73 [.agg [.sl (c.map encD)]] (.bool (catMay c)) := by
  rw [catMay_split]
  refine quiet_of (rs := #[.tmp 2]) Go.Proofs.Tryz.func73 rfl rfl rfl mixed rfl rfl fun H hs => ?_
  simp -implicitDefEqProofs only [push_cast, Nat.reduceAdd, Nat.reduceSub, Nat.reduceMul, Nat.reduceLT, Nat.reduceLeDiff, Nat.reduceEqDiff, Nat.reduceBEq, reduceCtorEq, reduceIte, Int.reduceLE, Int.reduceLT, Int.reduceNeg, Int.reduceToNat]
  refine loop_at hs (σ := Nat) (fun i => i ≤ c.length ∧ (c.take i).all Df.may = true) (fun i => c.length - i)
    (fun i => [(1, .ptr (H.nxt + 0) 1 0 0), (3, .int i)]) (fun i => [some (.cells 1 [[.sl (c.map encD)]] 0)]) [some 0] 0 ⟨by omega, rfl⟩ rfl ?_ ?_ ?_
  · (try simp -implicitDefEqProofs only [push_cast, Nat.reduceAdd, Nat.reduceSub, Nat.reduceMul, Nat.reduceLT, Nat.reduceLeDiff, Nat.reduceEqDiff, Nat.reduceBEq, reduceCtorEq, reduceIte, Int.reduceLE, Int.reduceLT, Int.reduceNeg, Int.reduceToNat, encDs_pure])
  · (try simp -implicitDefEqProofs only [push_cast, Nat.reduceAdd, Nat.reduceSub, Nat.reduceMul, Nat.reduceLT, Nat.reduceLeDiff, Nat.reduceEqDiff, Nat.reduceBEq, reduceCtorEq, reduceIte, Int.reduceLE, Int.reduceLT, Int.reduceNeg, Int.reduceToNat, encDs_pure])
  rintro i ⟨h2, h3⟩
  by_cases hi : i < c.length
  · have hi' : ((i : Int) < (c.length : Int)) = True := by simp; omega
    have hi0 : (0 ≤ (i : Int)) = True := by simp
    simp -implicitDefEqProofs only [push_cast, Nat.reduceAdd, Nat.reduceSub, Nat.reduceMul, Nat.reduceLT, Nat.reduceLeDiff, Nat.reduceEqDiff, Nat.reduceBEq, reduceCtorEq, reduceIte, Int.reduceLE, Int.reduceLT, Int.reduceNeg, Int.reduceToNat, hi', hi0, encDs_get c i hi, encD]
    have hm : (decide (c[i].cols < 1) || decide (4 < c[i].cols) || decide (c[i].rows < 1) || decide (1000000 < c[i].rows)) = !c[i].may := by
      unfold Df.may
      grind
    rw [hm]
    refine ⟨fun h => ?_, fun h => ?_⟩
    · have hn : c.all Df.may = false := by
        rw [Bool.eq_false_iff]
        intro ha
        rw [List.all_eq_true] at ha
        rw [ha _ (List.getElem_mem hi)] at h
        cases h
      rw [hn]
      rfl
    · rw [wrap64 (n := (i : Int) + 1) (by omega) (by omega)]
      refine next_at [some 0] (i + 1) ⟨by omega, ?_⟩ (by omega) rfl ?_ ?_
      · rw [all_snoc c i hi, h3]
        simpa using h
      · (try simp -implicitDefEqProofs only [push_cast, Nat.reduceAdd, Nat.reduceSub, Nat.reduceMul, Nat.reduceLT, Nat.reduceLeDiff, Nat.reduceEqDiff, Nat.reduceBEq, reduceCtorEq, reduceIte, Int.reduceLE, Int.reduceLT, Int.reduceNeg, Int.reduceToNat, encDs_pure])
      · (try simp -implicitDefEqProofs only [push_cast, Nat.reduceAdd, Nat.reduceSub, Nat.reduceMul, Nat.reduceLT, Nat.reduceLeDiff, Nat.reduceEqDiff, Nat.reduceBEq, reduceCtorEq, reduceIte, Int.reduceLE, Int.reduceLT, Int.reduceNeg, Int.reduceToNat, encDs_pure])
  · have hi' : ((i : Int) < (c.length : Int)) = False := by simp; omega
    rw [List.take_of_length_le (by omega)] at h3
    simp -implicitDefEqProofs only [push_cast, Nat.reduceAdd, Nat.reduceSub, Nat.reduceMul, Nat.reduceLT, Nat.reduceLeDiff, Nat.reduceEqDiff, Nat.reduceBEq, reduceCtorEq, reduceIte, Int.reduceLE, Int.reduceLT, Int.reduceNeg, Int.reduceToNat, hi']
    rw [h3, Bool.true_and]
end Go.Sim.Tryz
set_option linter.unusedSimpArgs false
set_option linter.unusedVariables false
set_option maxRecDepth 100000
namespace Go.Sim.Tryz
open Go Go.Sim
attribute [local push_cast] aops_cons aops_nil aopG_none aopG_some aopP_eq aopE_eq aopC_eq aopE?_eq aopC?_eq aopB_eq aopB?_eq abr anilq gopP_eq gopL_eq ahead_cons ahead_nil ahdG_none ahdG_some ahdP_eq ahdN_eq ahdC_eq ahdN?_eq ahdS_eq ahdS?_eq astoreN ahdC?_eq ghdP_eq ghdC_eq ghdC?_eq ghdZ_f ghdZ_t ahdI_eq ahdI?_eq ghdN?_eq aim_nil aim_cons isIn_nil isIn_none isIn_cons aimm aheP_eq aheA_eq aheC_eq aheC?_eq aheI?_eq aheA?_eq gheP_eq gheC_eq gheC?_eq gheZ_eq aheG_none aheG_some aheff_cons aheff_nil aapp gro_rsl gro_lit gro_esl opt_some opt_none no_eq acondT_true acondT_false acondT_lit aw_skip aw_region aw_regionD aw_seq aw_cond aw_block aw_loop aw_exit aw_label aw_ret thn_normal thn_exit thn_ret inb_normal inb_exit inb_ret qret_ret qret_normal gcond apure aeff anew acallee ares aresT aresL aresC ares1 qfin_eq ev ofV evL gokL tget tput_some tput_none initT abin aint aun aload afaddr aiaddr afield aindex aextract apick pickv_lit Bool.or_false Bool.false_or Bool.or_true Bool.true_or imp_self aslice chunk roomB abound aconv abuild afill splice alen aminmax abuiltin anil apart Value.oneCell' astore aappend srcEs abuildSlice asets isEq plus_obj plus_nxt plus_add plus_set plus_del IntKind.bits Option.map_some Option.map_none Option.bind_some Option.bind_none Option.join_some Option.getD_some Option.getD_none Option.toList Option.isSome_some List.getElem?_toArray List.getElem?_cons_zero List.getElem?_cons_succ List.getElem?_nil List.length_cons List.length_nil List.length_map List.head?_cons List.cons_append List.nil_append List.append_nil List.map_cons List.map_nil List.getD_cons_zero List.getD_cons_succ List.replicate_succ List.replicate_zero List.set_cons_zero List.set_cons_succ List.take_succ_cons List.take_zero List.drop_succ_cons List.drop_zero List.all_cons List.all_nil Nat.zero_add if_true if_false true_and and_true false_and and_false true_implies implies_true forall_const Bool.and_true Bool.true_and Bool.false_and Bool.and_false Bool.true_beq Bool.false_beq Bool.not_not beq_tt beq_ff Int.toNat_natCast decide_true decide_false Bool.not_true Bool.not_false Bool.true_eq_false Bool.false_eq_true false_implies exists_prop eq_self bne_self_eq_false beq_self_eq_true decide_eq_true_eq decide_eq_false_iff_not Bool.not_eq_true' Bool.not_eq_false' AV.int AV.bool AV.nilS ne_eq not_false_eq_true not_true_eq_false exists_eq_left exists_eq_left' Nat.lt_irrefl core_lit grd_lit acells_lit one_lit core_agg grd_agg acells_agg one_agg core_tup grd_tup acells_tup one_tup core_sl grd_sl acells_sl one_sl core_esl grd_esl acells_esl one_esl core_rsl grd_rsl acells_rsl one_rsl core_ptr grd_ptr acells_ptr one_ptr core_iptr grd_iptr acells_iptr one_iptr core_clo grd_clo acells_clo one_clo core_mp grd_mp acells_mp one_mp core_any grd_any acells_any one_any core_gv grd_gv fit_agg fit_lit fit_sl fit_esl fit_rsl fit_ptr fit_iptr fit_clo fit_mp retq_ret retq_normal set_nxt set_set plus_obj_set plus_set_set app_get0 app_get app_set0 app_set List.append_assoc List.length_append List.length_set Nat.lt_add_one Nat.add_lt_add_iff_right Nat.lt_add_right_iff_pos Nat.add_lt_add_iff_left List.mem_cons List.not_mem_nil or_false forall_eq forall_eq_or_imp lt_s0 lt_s1 lt_s2 lt_s3 lt_s4 lt_s5 lt_s6 lt_s7 lt_s8 pickv_t pickv_f or_nand or_nand2 imp_and_l SealT SealOs sealO_cells sl_lit sl_any sl_agg sl_tup sl_sl sl_rsl slO sl_esl sl_nil sl_eslesl sl_eslnil sl_rslrsl sl_eslrsl sl_nilrsl sl_ptr sl_iptr sl_ptri slP sl_clo sl_mp sl_gv sll_nil sll_cons slll_nil slll_cons shut_eq shutO Option.join_none Fn.func.injEq and_self sealL_self sealLL_self seal_self PureL PureLL Pure Nat.le_refl Nat.zero_le AV.lit.injEq Value.int.injEq Value.bool.injEq false_or or_true true_or Int.natCast_zero Int.ofNat_zero Int.cast_ofNat_Int Int.natCast_add Int.natCast_one Option.some.injEq piL_is sop_nil sop_cons sop_none sop_some sopO_some sop_new shut_pi shutL_nil shutL_cons exQ_exit exQ_ret exQ_normal Go.Sim.Tryz.ty_load1 Go.Sim.Tryz.ty_zero1 Go.Sim.Tryz.ty_load2 Go.Sim.Tryz.ty_zero2 Go.Sim.Tryz.ty_und2 Go.Sim.Tryz.ty_load3 Go.Sim.Tryz.ty_zero3 Go.Sim.Tryz.ty_und3 Go.Sim.Tryz.ty_load4 Go.Sim.Tryz.ty_zero4 Go.Sim.Tryz.ty_und4 Go.Sim.Tryz.ty_load5 Go.Sim.Tryz.ty_zero5 Go.Sim.Tryz.ty_und5 Go.Sim.Tryz.ty_load9 Go.Sim.Tryz.ty_zero9 Go.Sim.Tryz.ty_und9 Go.Sim.Tryz.ty_load22 Go.Sim.Tryz.ty_zero22 Go.Sim.Tryz.ty_el22 Go.Sim.Tryz.ty_zeroE22 Go.Sim.Tryz.ty_load24 Go.Sim.Tryz.ty_zero24 Go.Sim.Tryz.ty_fld24_0 Go.Sim.Tryz.ty_part24_0 Go.Sim.Tryz.ty_struct24 Go.Sim.Tryz.ty_load25 Go.Sim.Tryz.ty_zero25 Go.Sim.Tryz.ty_el25 Go.Sim.Tryz.ty_zeroE25 Go.Sim.Tryz.ty_load26 Go.Sim.Tryz.ty_zero26 Go.Sim.Tryz.ty_el26 Go.Sim.Tryz.ty_zeroE26 Go.Sim.Tryz.ty_load28 Go.Sim.Tryz.ty_zero28 Go.Sim.Tryz.ty_fld28_0 Go.Sim.Tryz.ty_part28_0 Go.Sim.Tryz.ty_fld28_1 Go.Sim.Tryz.ty_part28_1 Go.Sim.Tryz.ty_fld28_2 Go.Sim.Tryz.ty_part28_2 Go.Sim.Tryz.ty_fld28_3 Go.Sim.Tryz.ty_part28_3 Go.Sim.Tryz.ty_fld28_4 Go.Sim.Tryz.ty_part28_4 Go.Sim.Tryz.ty_fld28_5 Go.Sim.Tryz.ty_part28_5 Go.Sim.Tryz.ty_struct28 Go.Sim.Tryz.ty_load36 Go.Sim.Tryz.ty_zero36 Go.Sim.Tryz.ty_fld36_0 Go.Sim.Tryz.ty_part36_0 Go.Sim.Tryz.ty_fld36_1 Go.Sim.Tryz.ty_part36_1 Go.Sim.Tryz.ty_struct36 Go.Sim.Tryz.ty_load38 Go.Sim.Tryz.ty_zero38 Go.Sim.Tryz.ty_fld38_0 Go.Sim.Tryz.ty_part38_0 Go.Sim.Tryz.ty_fld38_1 Go.Sim.Tryz.ty_part38_1 Go.Sim.Tryz.ty_fld38_2 Go.Sim.Tryz.ty_part38_2 Go.Sim.Tryz.ty_fld38_3 Go.Sim.Tryz.ty_part38_3 Go.Sim.Tryz.ty_struct38 Go.Sim.Tryz.ty_load48 Go.Sim.Tryz.ty_zero48 Go.Sim.Tryz.ty_el48 Go.Sim.Tryz.ty_zeroE48 Go.Sim.Tryz.ty_load51 Go.Sim.Tryz.ty_zero51 Go.Sim.Tryz.ty_arr51 Go.Sim.Tryz.ty_part51_0 Go.Sim.Tryz.ty_part51_1 Go.Sim.Tryz.ty_struct51 Go.Sim.Tryz.ty_load59 Go.Sim.Tryz.ty_zero59 Go.Sim.Tryz.ty_fld59_0 Go.Sim.Tryz.ty_part59_0 Go.Sim.Tryz.ty_fld59_1 Go.Sim.Tryz.ty_part59_1 Go.Sim.Tryz.ty_struct59 Go.Sim.Tryz.ty_load60 Go.Sim.Tryz.ty_zero60 Go.Sim.Tryz.ty_el60 Go.Sim.Tryz.ty_zeroE60 Go.Sim.Tryz.ty_load62 Go.Sim.Tryz.ty_zero62 Go.Sim.Tryz.ty_fld62_0 Go.Sim.Tryz.ty_part62_0 Go.Sim.Tryz.ty_struct62 Go.Sim.Tryz.ty_load67 Go.Sim.Tryz.ty_zero67 Go.Sim.Tryz.ty_load68 Go.Sim.Tryz.ty_zero68 Go.Sim.Tryz.ty_load75 Go.Sim.Tryz.ty_zero75 Go.Sim.Tryz.ty_load76 Go.Sim.Tryz.ty_zero76 Go.Sim.Tryz.ty_und76 Go.Sim.Tryz.ty_load82 Go.Sim.Tryz.ty_zero82 Go.Sim.Tryz.ty_und82 Go.Sim.Tryz.ty_load85 Go.Sim.Tryz.ty_zero85 Go.Sim.Tryz.ty_und85 Go.Sim.Tryz.ty_load89 Go.Sim.Tryz.ty_zero89 Go.Sim.Tryz.ty_el89 Go.Sim.Tryz.ty_zeroE89 Go.Sim.Tryz.ty_load90 Go.Sim.Tryz.ty_zero90 Go.Sim.Tryz.ty_el90 Go.Sim.Tryz.ty_zeroE90 Go.Sim.Tryz.ty_load93 Go.Sim.Tryz.ty_zero93 Go.Sim.Tryz.ty_load98 Go.Sim.Tryz.ty_zero98 Go.Sim.Tryz.ty_fld98_0 Go.Sim.Tryz.ty_part98_0 Go.Sim.Tryz.ty_fld98_1 Go.Sim.Tryz.ty_part98_1 Go.Sim.Tryz.ty_fld98_2 Go.Sim.Tryz.ty_part98_2 Go.Sim.Tryz.ty_struct98 Go.Sim.Tryz.ty_load100 Go.Sim.Tryz.ty_zero100 Go.Sim.Tryz.ty_load106 Go.Sim.Tryz.ty_zero106 Go.Sim.Tryz.ty_load110 Go.Sim.Tryz.ty_zero110 Go.Sim.Tryz.ty_und110 Go.Sim.Tryz.ty_load118 Go.Sim.Tryz.ty_zero118 Go.Sim.Tryz.ty_und118 Go.Sim.Tryz.ty_load121 Go.Sim.Tryz.ty_zero121 Go.Sim.Tryz.ty_load128 Go.Sim.Tryz.ty_zero128 Go.Sim.Tryz.ty_und128 Go.Sim.Tryz.ty_load132 Go.Sim.Tryz.ty_zero132 encE_mk encE_take encE_len encV encE_one encEs_pure encE_pure

theorem setTo_range (p : Nat → Bool) : ∀ k, k ≤ 4 → 0 ≤ setTo p k ∧ setTo p k ≤ 15 := by
  intro k hk
  have hc : k = 0 ∨ k = 1 ∨ k = 2 ∨ k = 3 ∨ k = 4 := by omega
  rcases hc with rfl | rfl | rfl | rfl | rfl <;> simp only [setTo] <;> (repeat' split) <;> omega
theorem OfR_ok (e : Ex) (hok : e.Ok) (hc : cnt e ≤ 1000000) (hm : ∀ c ∈ e.cols, 0 ≤ c ∧ c ≤ 15) : Quiet Go.Proofs.Tryz.prog 28 [.agg (encE e)] (.int (setE e)) := by
  have hcr := ColsR_ok e hok
  rw [colsR_eq] at hcr
  rw [setE, ← setTo_four]
  have hl := Nat.le_trans (cols_len e) hc
  have hh : hasOcc e = ofC e.cols := rfl
  rw [hh]
  generalize e.cols = l at hcr hm hl
  refine quiet_of (rs := #[.tmp 2]) Go.Proofs.Tryz.func28 rfl rfl rfl mixed rfl rfl fun H hs => ?_
  simp -implicitDefEqProofs only [push_cast, Nat.reduceAdd, Nat.reduceSub, Nat.reduceMul, Nat.reduceLT, Nat.reduceLeDiff, Nat.reduceEqDiff, Nat.reduceBEq, reduceCtorEq, reduceIte, Int.reduceLE, Int.reduceLT, Int.reduceNeg, Int.reduceToNat]
  refine callq hcr ?_
  simp -implicitDefEqProofs only [push_cast, Nat.reduceAdd, Nat.reduceSub, Nat.reduceMul, Nat.reduceLT, Nat.reduceLeDiff, Nat.reduceEqDiff, Nat.reduceBEq, reduceCtorEq, reduceIte, Int.reduceLE, Int.reduceLT, Int.reduceNeg, Int.reduceToNat]
  refine loop_rule hs (σ := Nat) (fun i => i ≤ 4) (fun i => 4 - i)
    (fun i => [(3, .sl (l.map encI)), (4, .int (setTo (ofC l) i)), (5, .int (2 ^ i)), (6, .int i)]) (fun _ => []) 0 (by omega) ?_ ?_ ?_
  · (try simp -implicitDefEqProofs only [push_cast, Nat.reduceAdd, Nat.reduceSub, Nat.reduceMul, Nat.reduceLT, Nat.reduceLeDiff, Nat.reduceEqDiff, Nat.reduceBEq, reduceCtorEq, reduceIte, Int.reduceLE, Int.reduceLT, Int.reduceNeg, Int.reduceToNat, encIs_pure])
    exact ⟨rfl, rfl⟩
  · (try simp -implicitDefEqProofs only [push_cast, Nat.reduceAdd, Nat.reduceSub, Nat.reduceMul, Nat.reduceLT, Nat.reduceLeDiff, Nat.reduceEqDiff, Nat.reduceBEq, reduceCtorEq, reduceIte, Int.reduceLE, Int.reduceLT, Int.reduceNeg, Int.reduceToNat])
  rintro i h2
  by_cases hi : i < 4
  · have hi' : ((i : Int) < 4) = True := by simp; omega
    simp -implicitDefEqProofs only [push_cast, Nat.reduceAdd, Nat.reduceSub, Nat.reduceMul, Nat.reduceLT, Nat.reduceLeDiff, Nat.reduceEqDiff, Nat.reduceBEq, reduceCtorEq, reduceIte, Int.reduceLE, Int.reduceLT, Int.reduceNeg, Int.reduceToNat, hi']
    have hsr := setTo_range (ofC l) i (by omega)
    have hp2 : (1 : Int) ≤ 2 ^ i ∧ (2 : Int) ^ i ≤ 8 := by
      have hcs : i = 0 ∨ i = 1 ∨ i = 2 ∨ i = 3 := by omega
      rcases hcs with rfl | rfl | rfl | rfl <;> decide
    refine loop_rule hs (σ := Nat) (fun j => j ≤ l.length) (fun j => l.length - j)
      (fun j => [(3, .sl (l.map encI)), (4, .int (setTo (ofC l) i)), (5, .int (2 ^ i)), (6, .int i), (7, .bool (ofC (l.take j) i)), (8, .int j)]) (fun _ => []) 0 (by omega) ?_ ?_ ?_
    · (try simp -implicitDefEqProofs only [push_cast, Nat.reduceAdd, Nat.reduceSub, Nat.reduceMul, Nat.reduceLT, Nat.reduceLeDiff, Nat.reduceEqDiff, Nat.reduceBEq, reduceCtorEq, reduceIte, Int.reduceLE, Int.reduceLT, Int.reduceNeg, Int.reduceToNat, encIs_pure])
      rfl
    · (try simp -implicitDefEqProofs only [push_cast, Nat.reduceAdd, Nat.reduceSub, Nat.reduceMul, Nat.reduceLT, Nat.reduceLeDiff, Nat.reduceEqDiff, Nat.reduceBEq, reduceCtorEq, reduceIte, Int.reduceLE, Int.reduceLT, Int.reduceNeg, Int.reduceToNat])
    rintro j h4
    by_cases hj : j < l.length
    · have hj' : ((j : Int) < (l.length : Int)) = True := by simp; omega
      have hj0 : (0 ≤ (j : Int)) = True := by simp
      have hr := hm l[j] (List.getElem_mem hj)
      simp -implicitDefEqProofs only [push_cast, Nat.reduceAdd, Nat.reduceSub, Nat.reduceMul, Nat.reduceLT, Nat.reduceLeDiff, Nat.reduceEqDiff, Nat.reduceBEq, reduceCtorEq, reduceIte, Int.reduceLE, Int.reduceLT, Int.reduceNeg, Int.reduceToNat, hj', hj0, encIs_get l j hj, encI]
      have hq : IntKind.wrap .i64 (Int.tdiv l[j] 4) = l[j] / 4 := by
        rw [Int.tdiv_eq_ediv_of_nonneg hr.1, wrap64 (by omega) (by omega)]
      have hst : ofC (l.take (j + 1)) i = (ofC (l.take j) i || decide (l[j] / 4 = (i : Int))) := by
        unfold ofC
        rw [List.take_succ_eq_append_getElem hj, List.any_append, List.any_cons, List.any_nil, Bool.or_false]
      rw [hq, wrap64 (n := (j : Int) + 1) (by omega) (by omega)]
      refine ⟨fun _ => by decide, ?_⟩
      refine next_intro (j + 1) (by omega) (by omega) ?_ ?_
      · (try simp -implicitDefEqProofs only [push_cast, Nat.reduceAdd, Nat.reduceSub, Nat.reduceMul, Nat.reduceLT, Nat.reduceLeDiff, Nat.reduceEqDiff, Nat.reduceBEq, reduceCtorEq, reduceIte, Int.reduceLE, Int.reduceLT, Int.reduceNeg, Int.reduceToNat, hst, encIs_pure])
      · (try simp -implicitDefEqProofs only [push_cast, Nat.reduceAdd, Nat.reduceSub, Nat.reduceMul, Nat.reduceLT, Nat.reduceLeDiff, Nat.reduceEqDiff, Nat.reduceBEq, reduceCtorEq, reduceIte, Int.reduceLE, Int.reduceLT, Int.reduceNeg, Int.reduceToNat])
    · have hj' : ((j : Int) < (l.length : Int)) = False := by simp; omega
      have h5 : l.take j = l := List.take_of_length_le (by omega)
      simp -implicitDefEqProofs only [push_cast, Nat.reduceAdd, Nat.reduceSub, Nat.reduceMul, Nat.reduceLT, Nat.reduceLeDiff, Nat.reduceEqDiff, Nat.reduceBEq, reduceCtorEq, reduceIte, Int.reduceLE, Int.reduceLT, Int.reduceNeg, Int.reduceToNat, hj', h5]
      have hw1 : IntKind.wrap .i64 ((2 : Int) ^ i * 2) = 2 ^ (i + 1) := by rw [Int.pow_succ, wrap64 (by omega) (by omega)]
      have hw2 : IntKind.wrap .i64 (setTo (ofC l) i + 2 ^ i) = setTo (ofC l) i + 2 ^ i := wrap64 (by omega) (by omega)
      rw [hw1, hw2, wrap64 (n := (i : Int) + 1) (by omega) (by omega)]
      refine ⟨fun h => ?_, fun h => ?_⟩
      · have hs1 : setTo (ofC l) (i + 1) = setTo (ofC l) i + 2 ^ i := by rw [setTo, if_pos h]
        refine next_intro (i + 1) (by omega) (by omega) ?_ ?_
        · (try simp -implicitDefEqProofs only [push_cast, Nat.reduceAdd, Nat.reduceSub, Nat.reduceMul, Nat.reduceLT, Nat.reduceLeDiff, Nat.reduceEqDiff, Nat.reduceBEq, reduceCtorEq, reduceIte, Int.reduceLE, Int.reduceLT, Int.reduceNeg, Int.reduceToNat, hs1, encIs_pure])
        · (try simp -implicitDefEqProofs only [push_cast, Nat.reduceAdd, Nat.reduceSub, Nat.reduceMul, Nat.reduceLT, Nat.reduceLeDiff, Nat.reduceEqDiff, Nat.reduceBEq, reduceCtorEq, reduceIte, Int.reduceLE, Int.reduceLT, Int.reduceNeg, Int.reduceToNat])
      · have hs1 : setTo (ofC l) (i + 1) = setTo (ofC l) i := by rw [setTo, if_neg (by rw [h]; decide), Int.add_zero]
        refine next_intro (i + 1) (by omega) (by omega) ?_ ?_
        · (try simp -implicitDefEqProofs only [push_cast, Nat.reduceAdd, Nat.reduceSub, Nat.reduceMul, Nat.reduceLT, Nat.reduceLeDiff, Nat.reduceEqDiff, Nat.reduceBEq, reduceCtorEq, reduceIte, Int.reduceLE, Int.reduceLT, Int.reduceNeg, Int.reduceToNat, hs1, encIs_pure])
        · (try simp -implicitDefEqProofs only [push_cast, Nat.reduceAdd, Nat.reduceSub, Nat.reduceMul, Nat.reduceLT, Nat.reduceLeDiff, Nat.reduceEqDiff, Nat.reduceBEq, reduceCtorEq, reduceIte, Int.reduceLE, Int.reduceLT, Int.reduceNeg, Int.reduceToNat])
  · have hi' : ((i : Int) < 4) = False := by simp; omega
    simp -implicitDefEqProofs only [push_cast, Nat.reduceAdd, Nat.reduceSub, Nat.reduceMul, Nat.reduceLT, Nat.reduceLeDiff, Nat.reduceEqDiff, Nat.reduceBEq, reduceCtorEq, reduceIte, Int.reduceLE, Int.reduceLT, Int.reduceNeg, Int.reduceToNat, hi']
    (try simp -implicitDefEqProofs only [push_cast, Nat.reduceAdd, Nat.reduceSub, Nat.reduceMul, Nat.reduceLT, Nat.reduceLeDiff, Nat.reduceEqDiff, Nat.reduceBEq, reduceCtorEq, reduceIte, Int.reduceLE, Int.reduceLT, Int.reduceNeg, Int.reduceToNat])
    have h4 : i = 4 := by omega
    rw [h4]
end Go.Sim.Tryz
set_option linter.unusedSimpArgs false
set_option linter.unusedVariables false
set_option maxRecDepth 100000
namespace Go.Sim.Tryz
open Go Go.Sim
attribute [local push_cast] aops_cons aops_nil aopG_none aopG_some aopP_eq aopE_eq aopC_eq aopE?_eq aopC?_eq aopB_eq aopB?_eq abr anilq gopP_eq gopL_eq ahead_cons ahead_nil ahdG_none ahdG_some ahdP_eq ahdN_eq ahdC_eq ahdN?_eq ahdS_eq ahdS?_eq astoreN ahdC?_eq ghdP_eq ghdC_eq ghdC?_eq ghdZ_f ghdZ_t ahdI_eq ahdI?_eq ghdN?_eq aim_nil aim_cons isIn_nil isIn_none isIn_cons aimm aheP_eq aheA_eq aheC_eq aheC?_eq aheI?_eq aheA?_eq gheP_eq gheC_eq gheC?_eq gheZ_eq aheG_none aheG_some aheff_cons aheff_nil aapp gro_rsl gro_lit gro_esl opt_some opt_none no_eq acondT_true acondT_false acondT_lit aw_skip aw_region aw_regionD aw_seq aw_cond aw_block aw_loop aw_exit aw_label aw_ret thn_normal thn_exit thn_ret inb_normal inb_exit inb_ret qret_ret qret_normal gcond apure aeff anew acallee ares aresT aresL aresC ares1 qfin_eq ev ofV evL gokL tget tput_some tput_none initT abin aint aun aload afaddr aiaddr afield aindex aextract apick pickv_lit Bool.or_false Bool.false_or Bool.or_true Bool.true_or imp_self aslice chunk roomB abound aconv abuild afill splice alen aminmax abuiltin anil apart Value.oneCell' astore aappend srcEs abuildSlice asets isEq plus_obj plus_nxt plus_add plus_set plus_del IntKind.bits Option.map_some Option.map_none Option.bind_some Option.bind_none Option.join_some Option.getD_some Option.getD_none Option.toList Option.isSome_some List.getElem?_toArray List.getElem?_cons_zero List.getElem?_cons_succ List.getElem?_nil List.length_cons List.length_nil List.length_map List.head?_cons List.cons_append List.nil_append List.append_nil List.map_cons List.map_nil List.getD_cons_zero List.getD_cons_succ List.replicate_succ List.replicate_zero List.set_cons_zero List.set_cons_succ List.take_succ_cons List.take_zero List.drop_succ_cons List.drop_zero List.all_cons List.all_nil Nat.zero_add if_true if_false true_and and_true false_and and_false true_implies implies_true forall_const Bool.and_true Bool.true_and Bool.false_and Bool.and_false Bool.true_beq Bool.false_beq Bool.not_not beq_tt beq_ff Int.toNat_natCast decide_true decide_false Bool.not_true Bool.not_false Bool.true_eq_false Bool.false_eq_true false_implies exists_prop eq_self bne_self_eq_false beq_self_eq_true decide_eq_true_eq decide_eq_false_iff_not Bool.not_eq_true' Bool.not_eq_false' AV.int AV.bool AV.nilS ne_eq not_false_eq_true not_true_eq_false exists_eq_left exists_eq_left' Nat.lt_irrefl core_lit grd_lit acells_lit one_lit core_agg grd_agg acells_agg one_agg core_tup grd_tup acells_tup one_tup core_sl grd_sl acells_sl one_sl core_esl grd_esl acells_esl one_esl core_rsl grd_rsl acells_rsl one_rsl core_ptr grd_ptr acells_ptr one_ptr core_iptr grd_iptr acells_iptr one_iptr core_clo grd_clo acells_clo one_clo core_mp grd_mp acells_mp one_mp core_any grd_any acells_any one_any core_gv grd_gv fit_agg fit_lit fit_sl fit_esl fit_rsl fit_ptr fit_iptr fit_clo fit_mp retq_ret retq_normal set_nxt set_set plus_obj_set plus_set_set app_get0 app_get app_set0 app_set List.append_assoc List.length_append List.length_set Nat.lt_add_one Nat.add_lt_add_iff_right Nat.lt_add_right_iff_pos Nat.add_lt_add_iff_left List.mem_cons List.not_mem_nil or_false forall_eq forall_eq_or_imp lt_s0 lt_s1 lt_s2 lt_s3 lt_s4 lt_s5 lt_s6 lt_s7 lt_s8 pickv_t pickv_f or_nand or_nand2 imp_and_l SealT SealOs sealO_cells sl_lit sl_any sl_agg sl_tup sl_sl sl_rsl slO sl_esl sl_nil sl_eslesl sl_eslnil sl_rslrsl sl_eslrsl sl_nilrsl sl_ptr sl_iptr sl_ptri slP sl_clo sl_mp sl_gv sll_nil sll_cons slll_nil slll_cons shut_eq shutO Option.join_none Fn.func.injEq and_self sealL_self sealLL_self seal_self PureL PureLL Pure Nat.le_refl Nat.zero_le AV.lit.injEq Value.int.injEq Value.bool.injEq false_or or_true true_or Int.natCast_zero Int.ofNat_zero Int.cast_ofNat_Int Int.natCast_add Int.natCast_one Option.some.injEq piL_is sop_nil sop_cons sop_none sop_some sopO_some sop_new shut_pi shutL_nil shutL_cons exQ_exit exQ_ret exQ_normal Go.Sim.Tryz.ty_load1 Go.Sim.Tryz.ty_zero1 Go.Sim.Tryz.ty_load2 Go.Sim.Tryz.ty_zero2 Go.Sim.Tryz.ty_und2 Go.Sim.Tryz.ty_load3 Go.Sim.Tryz.ty_zero3 Go.Sim.Tryz.ty_und3 Go.Sim.Tryz.ty_load4 Go.Sim.Tryz.ty_zero4 Go.Sim.Tryz.ty_und4 Go.Sim.Tryz.ty_load5 Go.Sim.Tryz.ty_zero5 Go.Sim.Tryz.ty_und5 Go.Sim.Tryz.ty_load9 Go.Sim.Tryz.ty_zero9 Go.Sim.Tryz.ty_und9 Go.Sim.Tryz.ty_load22 Go.Sim.Tryz.ty_zero22 Go.Sim.Tryz.ty_el22 Go.Sim.Tryz.ty_zeroE22 Go.Sim.Tryz.ty_load24 Go.Sim.Tryz.ty_zero24 Go.Sim.Tryz.ty_fld24_0 Go.Sim.Tryz.ty_part24_0 Go.Sim.Tryz.ty_struct24 Go.Sim.Tryz.ty_load25 Go.Sim.Tryz.ty_zero25 Go.Sim.Tryz.ty_el25 Go.Sim.Tryz.ty_zeroE25 Go.Sim.Tryz.ty_load26 Go.Sim.Tryz.ty_zero26 Go.Sim.Tryz.ty_el26 Go.Sim.Tryz.ty_zeroE26 Go.Sim.Tryz.ty_load28 Go.Sim.Tryz.ty_zero28 Go.Sim.Tryz.ty_fld28_0 Go.Sim.Tryz.ty_part28_0 Go.Sim.Tryz.ty_fld28_1 Go.Sim.Tryz.ty_part28_1 Go.Sim.Tryz.ty_fld28_2 Go.Sim.Tryz.ty_part28_2 Go.Sim.Tryz.ty_fld28_3 Go.Sim.Tryz.ty_part28_3 Go.Sim.Tryz.ty_fld28_4 Go.Sim.Tryz.ty_part28_4 Go.Sim.Tryz.ty_fld28_5 Go.Sim.Tryz.ty_part28_5 Go.Sim.Tryz.ty_struct28 Go.Sim.Tryz.ty_load36 Go.Sim.Tryz.ty_zero36 Go.Sim.Tryz.ty_fld36_0 Go.Sim.Tryz.ty_part36_0 Go.Sim.Tryz.ty_fld36_1 Go.Sim.Tryz.ty_part36_1 Go.Sim.Tryz.ty_struct36 Go.Sim.Tryz.ty_load38 Go.Sim.Tryz.ty_zero38 Go.Sim.Tryz.ty_fld38_0 Go.Sim.Tryz.ty_part38_0 Go.Sim.Tryz.ty_fld38_1 Go.Sim.Tryz.ty_part38_1 Go.Sim.Tryz.ty_fld38_2 Go.Sim.Tryz.ty_part38_2 Go.Sim.Tryz.ty_fld38_3 Go.Sim.Tryz.ty_part38_3 Go.Sim.Tryz.ty_struct38 Go.Sim.Tryz.ty_load48 Go.Sim.Tryz.ty_zero48 Go.Sim.Tryz.ty_el48 Go.Sim.Tryz.ty_zeroE48 Go.Sim.Tryz.ty_load51 Go.Sim.Tryz.ty_zero51 Go.Sim.Tryz.ty_arr51 Go.Sim.Tryz.ty_part51_0 Go.Sim.Tryz.ty_part51_1 Go.Sim.Tryz.ty_struct51 Go.Sim.Tryz.ty_load59 Go.Sim.Tryz.ty_zero59 Go.Sim.Tryz.ty_fld59_0 Go.Sim.Tryz.ty_part59_0 Go.Sim.Tryz.ty_fld59_1 Go.Sim.Tryz.ty_part59_1 Go.Sim.Tryz.ty_struct59 Go.Sim.Tryz.ty_load60 Go.Sim.Tryz.ty_zero60 Go.Sim.Tryz.ty_el60 Go.Sim.Tryz.ty_zeroE60 Go.Sim.Tryz.ty_load62 Go.Sim.Tryz.ty_zero62 Go.Sim.Tryz.ty_fld62_0 Go.Sim.Tryz.ty_part62_0 Go.Sim.Tryz.ty_struct62 Go.Sim.Tryz.ty_load67 Go.Sim.Tryz.ty_zero67 Go.Sim.Tryz.ty_load68 Go.Sim.Tryz.ty_zero68 Go.Sim.Tryz.ty_load75 Go.Sim.Tryz.ty_zero75 Go.Sim.Tryz.ty_load76 Go.Sim.Tryz.ty_zero76 Go.Sim.Tryz.ty_und76 Go.Sim.Tryz.ty_load82 Go.Sim.Tryz.ty_zero82 Go.Sim.Tryz.ty_und82 Go.Sim.Tryz.ty_load85 Go.Sim.Tryz.ty_zero85 Go.Sim.Tryz.ty_und85 Go.Sim.Tryz.ty_load89 Go.Sim.Tryz.ty_zero89 Go.Sim.Tryz.ty_el89 Go.Sim.Tryz.ty_zeroE89 Go.Sim.Tryz.ty_load90 Go.Sim.Tryz.ty_zero90 Go.Sim.Tryz.ty_el90 Go.Sim.Tryz.ty_zeroE90 Go.Sim.Tryz.ty_load93 Go.Sim.Tryz.ty_zero93 Go.Sim.Tryz.ty_load98 Go.Sim.Tryz.ty_zero98 Go.Sim.Tryz.ty_fld98_0 Go.Sim.Tryz.ty_part98_0 Go.Sim.Tryz.ty_fld98_1 Go.Sim.Tryz.ty_part98_1 Go.Sim.Tryz.ty_fld98_2 Go.Sim.Tryz.ty_part98_2 Go.Sim.Tryz.ty_struct98 Go.Sim.Tryz.ty_load100 Go.Sim.Tryz.ty_zero100 Go.Sim.Tryz.ty_load106 Go.Sim.Tryz.ty_zero106 Go.Sim.Tryz.ty_load110 Go.Sim.Tryz.ty_zero110 Go.Sim.Tryz.ty_und110 Go.Sim.Tryz.ty_load118 Go.Sim.Tryz.ty_zero118 Go.Sim.Tryz.ty_und118 Go.Sim.Tryz.ty_load121 Go.Sim.Tryz.ty_zero121 Go.Sim.Tryz.ty_load128 Go.Sim.Tryz.ty_zero128 Go.Sim.Tryz.ty_und128 Go.Sim.Tryz.ty_load132 Go.Sim.Tryz.ty_zero132 encE_mk encE_take encE_len encV encE_one encEs_pure encE_pure

theorem cols_rng (e : Ex) : ∀ c ∈ e.cols, 0 ≤ c ∧ c ≤ 15 := by
  intro c hx
  by_cases hm : e.may = true
  · exact cols_range e (fine_of_may hm) c ((cols_mem hm c).1 hx)
  · rw [cols_eq, if_neg hm] at hx
    cases hx
theorem OwnR_ok (q : Qy) (hq : q.Ok) (s : Int) : Quiet Go.Proofs.Tryz.prog 31 [.agg (encQ q), .int s] (.sl ((q.own s).map encI)) := by
  obtain ⟨hP, hok, _⟩ := hq
  rw [Qy.own]
  refine quiet_of (rs := #[.tmp 4]) Go.Proofs.Tryz.func31 rfl rfl rfl mixed rfl rfl fun H hs => ?_
  simp -implicitDefEqProofs only [push_cast, Nat.reduceAdd, Nat.reduceSub, Nat.reduceMul, Nat.reduceLT, Nat.reduceLeDiff, Nat.reduceEqDiff, Nat.reduceBEq, reduceCtorEq, reduceIte, Int.reduceLE, Int.reduceLT, Int.reduceNeg, Int.reduceToNat, encQ]
  refine loop_at hs (σ := Nat) (fun i => i ≤ q.p.length) (fun i => q.p.length - i)
    (fun i => [(6, .int i), (2, .ptr (H.nxt + 0) 6 0 0), (1, .int s), (5, .rsl (H.nxt + 1) 1 0 (idxF (ownT s) (q.p.take i)).length)]) (fun i => [some (.cells 6 [encQ q] 0), some (.cells 1 (rowI (idxF (ownT s) (q.p.take i))) 0)]) [some 0, none] 0 (by omega) rfl ?_ ?_ ?_
  · (try simp -implicitDefEqProofs only [push_cast, Nat.reduceAdd, Nat.reduceSub, Nat.reduceMul, Nat.reduceLT, Nat.reduceLeDiff, Nat.reduceEqDiff, Nat.reduceBEq, reduceCtorEq, reduceIte, Int.reduceLE, Int.reduceLT, Int.reduceNeg, Int.reduceToNat, idxF_nil, rowI_nil, List.take_zero, encEs_pure, encIs_pure, encQ])
  · (try simp -implicitDefEqProofs only [push_cast, Nat.reduceAdd, Nat.reduceSub, Nat.reduceMul, Nat.reduceLT, Nat.reduceLeDiff, Nat.reduceEqDiff, Nat.reduceBEq, reduceCtorEq, reduceIte, Int.reduceLE, Int.reduceLT, Int.reduceNeg, Int.reduceToNat, idxF_nil, rowI_nil, List.take_zero, encEs_pure, encIs_pure, encQ])
  intro i hi2
  have hlen := idxF_lt (ownT s) (q.p.take i)
  rw [List.length_take] at hlen
  by_cases hi : i < q.p.length
  · have hi' : ((i : Int) < (q.p.length : Int)) = True := by simp; omega
    have hi0 : (0 ≤ (i : Int)) = True := by simp
    have ho := hok _ (List.getElem_mem hi)
    simp -implicitDefEqProofs only [push_cast, Nat.reduceAdd, Nat.reduceSub, Nat.reduceMul, Nat.reduceLT, Nat.reduceLeDiff, Nat.reduceEqDiff, Nat.reduceBEq, reduceCtorEq, reduceIte, Int.reduceLE, Int.reduceLT, Int.reduceNeg, Int.reduceToNat, hi', hi0, encEs_get q.p i hi, encQ]
    refine callq (OfR_ok _ ho.1 ho.2 (cols_rng _)) ?_
    simp -implicitDefEqProofs only [push_cast, Nat.reduceAdd, Nat.reduceSub, Nat.reduceMul, Nat.reduceLT, Nat.reduceLeDiff, Nat.reduceEqDiff, Nat.reduceBEq, reduceCtorEq, reduceIte, Int.reduceLE, Int.reduceLT, Int.reduceNeg, Int.reduceToNat]
    refine callq (partS_ok _ _) ?_
    simp -implicitDefEqProofs only [push_cast, Nat.reduceAdd, Nat.reduceSub, Nat.reduceMul, Nat.reduceLT, Nat.reduceLeDiff, Nat.reduceEqDiff, Nat.reduceBEq, reduceCtorEq, reduceIte, Int.reduceLE, Int.reduceLT, Int.reduceNeg, Int.reduceToNat]
    refine ⟨fun h => ⟨by omega, ?_⟩, fun h => ?_⟩
    · rw [wrap64 (n := (i : Int) + 1) (by omega) (by omega)]
      refine next_at [some 0, some 3] (i + 1) (by omega) (by omega) rfl ?_ ?_
      · (try simp -implicitDefEqProofs only [push_cast, Nat.reduceAdd, Nat.reduceSub, Nat.reduceMul, Nat.reduceLT, Nat.reduceLeDiff, Nat.reduceEqDiff, Nat.reduceBEq, reduceCtorEq, reduceIte, Int.reduceLE, Int.reduceLT, Int.reduceNeg, Int.reduceToNat, idxF_yes (ownT s) q.p i hi h, encEs_pure, encIs_pure, encQ])
      · (try simp -implicitDefEqProofs only [push_cast, Nat.reduceAdd, Nat.reduceSub, Nat.reduceMul, Nat.reduceLT, Nat.reduceLeDiff, Nat.reduceEqDiff, Nat.reduceBEq, reduceCtorEq, reduceIte, Int.reduceLE, Int.reduceLT, Int.reduceNeg, Int.reduceToNat, idxF_yes (ownT s) q.p i hi h, take_rowI _ _ (Nat.le_refl _), snocI, rowI_pure, rowI_one, encEs_pure, encIs_pure, encQ])
    · rw [wrap64 (n := (i : Int) + 1) (by omega) (by omega)]
      refine next_at [some 0, some 1] (i + 1) (by omega) (by omega) rfl ?_ ?_
      · (try simp -implicitDefEqProofs only [push_cast, Nat.reduceAdd, Nat.reduceSub, Nat.reduceMul, Nat.reduceLT, Nat.reduceLeDiff, Nat.reduceEqDiff, Nat.reduceBEq, reduceCtorEq, reduceIte, Int.reduceLE, Int.reduceLT, Int.reduceNeg, Int.reduceToNat, idxF_no (ownT s) q.p i hi h, encEs_pure, encIs_pure, encQ])
      · (try simp -implicitDefEqProofs only [push_cast, Nat.reduceAdd, Nat.reduceSub, Nat.reduceMul, Nat.reduceLT, Nat.reduceLeDiff, Nat.reduceEqDiff, Nat.reduceBEq, reduceCtorEq, reduceIte, Int.reduceLE, Int.reduceLT, Int.reduceNeg, Int.reduceToNat, idxF_no (ownT s) q.p i hi h, rowI_pure, rowI_one, encEs_pure, encIs_pure, encQ])
  · have hi' : ((i : Int) < (q.p.length : Int)) = False := by simp; omega
    obtain rfl : i = q.p.length := by omega
    simp -implicitDefEqProofs only [push_cast, Nat.reduceAdd, Nat.reduceSub, Nat.reduceMul, Nat.reduceLT, Nat.reduceLeDiff, Nat.reduceEqDiff, Nat.reduceBEq, reduceCtorEq, reduceIte, Int.reduceLE, Int.reduceLT, Int.reduceNeg, Int.reduceToNat, hi', encQ]
    (try simp -implicitDefEqProofs only [push_cast, Nat.reduceAdd, Nat.reduceSub, Nat.reduceMul, Nat.reduceLT, Nat.reduceLeDiff, Nat.reduceEqDiff, Nat.reduceBEq, reduceCtorEq, reduceIte, Int.reduceLE, Int.reduceLT, Int.reduceNeg, Int.reduceToNat])
    rw [List.take_length, take_rowI _ _ (Nat.le_refl _)]
    exact sealLL_pure _ _ _ (encIs_pure _)
end Go.Sim.Tryz
set_option linter.unusedSimpArgs false
set_option linter.unusedVariables false
set_option maxRecDepth 100000
namespace Go.Sim.Tryz
open Go Go.Sim
attribute [local push_cast] aops_cons aops_nil aopG_none aopG_some aopP_eq aopE_eq aopC_eq aopE?_eq aopC?_eq aopB_eq aopB?_eq abr anilq gopP_eq gopL_eq ahead_cons ahead_nil ahdG_none ahdG_some ahdP_eq ahdN_eq ahdC_eq ahdN?_eq ahdS_eq ahdS?_eq astoreN ahdC?_eq ghdP_eq ghdC_eq ghdC?_eq ghdZ_f ghdZ_t ahdI_eq ahdI?_eq ghdN?_eq aim_nil aim_cons isIn_nil isIn_none isIn_cons aimm aheP_eq aheA_eq aheC_eq aheC?_eq aheI?_eq aheA?_eq gheP_eq gheC_eq gheC?_eq gheZ_eq aheG_none aheG_some aheff_cons aheff_nil aapp gro_rsl gro_lit gro_esl opt_some opt_none no_eq acondT_true acondT_false acondT_lit aw_skip aw_region aw_regionD aw_seq aw_cond aw_block aw_loop aw_exit aw_label aw_ret thn_normal thn_exit thn_ret inb_normal inb_exit inb_ret qret_ret qret_normal gcond apure aeff anew acallee ares aresT aresL aresC ares1 qfin_eq ev ofV evL gokL tget tput_some tput_none initT abin aint aun aload afaddr aiaddr afield aindex aextract apick pickv_lit Bool.or_false Bool.false_or Bool.or_true Bool.true_or imp_self aslice chunk roomB abound aconv abuild afill splice alen aminmax abuiltin anil apart Value.oneCell' astore aappend srcEs abuildSlice asets isEq plus_obj plus_nxt plus_add plus_set plus_del IntKind.bits Option.map_some Option.map_none Option.bind_some Option.bind_none Option.join_some Option.getD_some Option.getD_none Option.toList Option.isSome_some List.getElem?_toArray List.getElem?_cons_zero List.getElem?_cons_succ List.getElem?_nil List.length_cons List.length_nil List.length_map List.head?_cons List.cons_append List.nil_append List.append_nil List.map_cons List.map_nil List.getD_cons_zero List.getD_cons_succ List.replicate_succ List.replicate_zero List.set_cons_zero List.set_cons_succ List.take_succ_cons List.take_zero List.drop_succ_cons List.drop_zero List.all_cons List.all_nil Nat.zero_add if_true if_false true_and and_true false_and and_false true_implies implies_true forall_const Bool.and_true Bool.true_and Bool.false_and Bool.and_false Bool.true_beq Bool.false_beq Bool.not_not beq_tt beq_ff Int.toNat_natCast decide_true decide_false Bool.not_true Bool.not_false Bool.true_eq_false Bool.false_eq_true false_implies exists_prop eq_self bne_self_eq_false beq_self_eq_true decide_eq_true_eq decide_eq_false_iff_not Bool.not_eq_true' Bool.not_eq_false' AV.int AV.bool AV.nilS ne_eq not_false_eq_true not_true_eq_false exists_eq_left exists_eq_left' Nat.lt_irrefl core_lit grd_lit acells_lit one_lit core_agg grd_agg acells_agg one_agg core_tup grd_tup acells_tup one_tup core_sl grd_sl acells_sl one_sl core_esl grd_esl acells_esl one_esl core_rsl grd_rsl acells_rsl one_rsl core_ptr grd_ptr acells_ptr one_ptr core_iptr grd_iptr acells_iptr one_iptr core_clo grd_clo acells_clo one_clo core_mp grd_mp acells_mp one_mp core_any grd_any acells_any one_any core_gv grd_gv fit_agg fit_lit fit_sl fit_esl fit_rsl fit_ptr fit_iptr fit_clo fit_mp retq_ret retq_normal set_nxt set_set plus_obj_set plus_set_set app_get0 app_get app_set0 app_set List.append_assoc List.length_append List.length_set Nat.lt_add_one Nat.add_lt_add_iff_right Nat.lt_add_right_iff_pos Nat.add_lt_add_iff_left List.mem_cons List.not_mem_nil or_false forall_eq forall_eq_or_imp lt_s0 lt_s1 lt_s2 lt_s3 lt_s4 lt_s5 lt_s6 lt_s7 lt_s8 pickv_t pickv_f or_nand or_nand2 imp_and_l SealT SealOs sealO_cells sl_lit sl_any sl_agg sl_tup sl_sl sl_rsl slO sl_esl sl_nil sl_eslesl sl_eslnil sl_rslrsl sl_eslrsl sl_nilrsl sl_ptr sl_iptr sl_ptri slP sl_clo sl_mp sl_gv sll_nil sll_cons slll_nil slll_cons shut_eq shutO Option.join_none Fn.func.injEq and_self sealL_self sealLL_self seal_self PureL PureLL Pure Nat.le_refl Nat.zero_le AV.lit.injEq Value.int.injEq Value.bool.injEq false_or or_true true_or Int.natCast_zero Int.ofNat_zero Int.cast_ofNat_Int Int.natCast_add Int.natCast_one Option.some.injEq piL_is sop_nil sop_cons sop_none sop_some sopO_some sop_new shut_pi shutL_nil shutL_cons exQ_exit exQ_ret exQ_normal Go.Sim.Tryz.ty_load1 Go.Sim.Tryz.ty_zero1 Go.Sim.Tryz.ty_load2 Go.Sim.Tryz.ty_zero2 Go.Sim.Tryz.ty_und2 Go.Sim.Tryz.ty_load3 Go.Sim.Tryz.ty_zero3 Go.Sim.Tryz.ty_und3 Go.Sim.Tryz.ty_load4 Go.Sim.Tryz.ty_zero4 Go.Sim.Tryz.ty_und4 Go.Sim.Tryz.ty_load5 Go.Sim.Tryz.ty_zero5 Go.Sim.Tryz.ty_und5 Go.Sim.Tryz.ty_load9 Go.Sim.Tryz.ty_zero9 Go.Sim.Tryz.ty_und9 Go.Sim.Tryz.ty_load22 Go.Sim.Tryz.ty_zero22 Go.Sim.Tryz.ty_el22 Go.Sim.Tryz.ty_zeroE22 Go.Sim.Tryz.ty_load24 Go.Sim.Tryz.ty_zero24 Go.Sim.Tryz.ty_fld24_0 Go.Sim.Tryz.ty_part24_0 Go.Sim.Tryz.ty_struct24 Go.Sim.Tryz.ty_load25 Go.Sim.Tryz.ty_zero25 Go.Sim.Tryz.ty_el25 Go.Sim.Tryz.ty_zeroE25 Go.Sim.Tryz.ty_load26 Go.Sim.Tryz.ty_zero26 Go.Sim.Tryz.ty_el26 Go.Sim.Tryz.ty_zeroE26 Go.Sim.Tryz.ty_load28 Go.Sim.Tryz.ty_zero28 Go.Sim.Tryz.ty_fld28_0 Go.Sim.Tryz.ty_part28_0 Go.Sim.Tryz.ty_fld28_1 Go.Sim.Tryz.ty_part28_1 Go.Sim.Tryz.ty_fld28_2 Go.Sim.Tryz.ty_part28_2 Go.Sim.Tryz.ty_fld28_3 Go.Sim.Tryz.ty_part28_3 Go.Sim.Tryz.ty_fld28_4 Go.Sim.Tryz.ty_part28_4 Go.Sim.Tryz.ty_fld28_5 Go.Sim.Tryz.ty_part28_5 Go.Sim.Tryz.ty_struct28 Go.Sim.Tryz.ty_load36 Go.Sim.Tryz.ty_zero36 Go.Sim.Tryz.ty_fld36_0 Go.Sim.Tryz.ty_part36_0 Go.Sim.Tryz.ty_fld36_1 Go.Sim.Tryz.ty_part36_1 Go.Sim.Tryz.ty_struct36 Go.Sim.Tryz.ty_load38 Go.Sim.Tryz.ty_zero38 Go.Sim.Tryz.ty_fld38_0 Go.Sim.Tryz.ty_part38_0 Go.Sim.Tryz.ty_fld38_1 Go.Sim.Tryz.ty_part38_1 Go.Sim.Tryz.ty_fld38_2 Go.Sim.Tryz.ty_part38_2 Go.Sim.Tryz.ty_fld38_3 Go.Sim.Tryz.ty_part38_3 Go.Sim.Tryz.ty_struct38 Go.Sim.Tryz.ty_load48 Go.Sim.Tryz.ty_zero48 Go.Sim.Tryz.ty_el48 Go.Sim.Tryz.ty_zeroE48 Go.Sim.Tryz.ty_load51 Go.Sim.Tryz.ty_zero51 Go.Sim.Tryz.ty_arr51 Go.Sim.Tryz.ty_part51_0 Go.Sim.Tryz.ty_part51_1 Go.Sim.Tryz.ty_struct51 Go.Sim.Tryz.ty_load59 Go.Sim.Tryz.ty_zero59 Go.Sim.Tryz.ty_fld59_0 Go.Sim.Tryz.ty_part59_0 Go.Sim.Tryz.ty_fld59_1 Go.Sim.Tryz.ty_part59_1 Go.Sim.Tryz.ty_struct59 Go.Sim.Tryz.ty_load60 Go.Sim.Tryz.ty_zero60 Go.Sim.Tryz.ty_el60 Go.Sim.Tryz.ty_zeroE60 Go.Sim.Tryz.ty_load62 Go.Sim.Tryz.ty_zero62 Go.Sim.Tryz.ty_fld62_0 Go.Sim.Tryz.ty_part62_0 Go.Sim.Tryz.ty_struct62 Go.Sim.Tryz.ty_load67 Go.Sim.Tryz.ty_zero67 Go.Sim.Tryz.ty_load68 Go.Sim.Tryz.ty_zero68 Go.Sim.Tryz.ty_load75 Go.Sim.Tryz.ty_zero75 Go.Sim.Tryz.ty_load76 Go.Sim.Tryz.ty_zero76 Go.Sim.Tryz.ty_und76 Go.Sim.Tryz.ty_load82 Go.Sim.Tryz.ty_zero82 Go.Sim.Tryz.ty_und82 Go.Sim.Tryz.ty_load85 Go.Sim.Tryz.ty_zero85 Go.Sim.Tryz.ty_und85 Go.Sim.Tryz.ty_load89 Go.Sim.Tryz.ty_zero89 Go.Sim.Tryz.ty_el89 Go.Sim.Tryz.ty_zeroE89 Go.Sim.Tryz.ty_load90 Go.Sim.Tryz.ty_zero90 Go.Sim.Tryz.ty_el90 Go.Sim.Tryz.ty_zeroE90 Go.Sim.Tryz.ty_load93 Go.Sim.Tryz.ty_zero93 Go.Sim.Tryz.ty_load98 Go.Sim.Tryz.ty_zero98 Go.Sim.Tryz.ty_fld98_0 Go.Sim.Tryz.ty_part98_0 Go.Sim.Tryz.ty_fld98_1 Go.Sim.Tryz.ty_part98_1 Go.Sim.Tryz.ty_fld98_2 Go.Sim.Tryz.ty_part98_2 Go.Sim.Tryz.ty_struct98 Go.Sim.Tryz.ty_load100 Go.Sim.Tryz.ty_zero100 Go.Sim.Tryz.ty_load106 Go.Sim.Tryz.ty_zero106 Go.Sim.Tryz.ty_load110 Go.Sim.Tryz.ty_zero110 Go.Sim.Tryz.ty_und110 Go.Sim.Tryz.ty_load118 Go.Sim.Tryz.ty_zero118 Go.Sim.Tryz.ty_und118 Go.Sim.Tryz.ty_load121 Go.Sim.Tryz.ty_zero121 Go.Sim.Tryz.ty_load128 Go.Sim.Tryz.ty_zero128 Go.Sim.Tryz.ty_und128 Go.Sim.Tryz.ty_load132 Go.Sim.Tryz.ty_zero132 encE_mk encE_take encE_len encV encE_one encEs_pure encE_pure

theorem idx_neg (l : List Int) (x : Int) : decide (idx (fun c => decide (x = c)) l < 0) = !l.contains x := by
  have h := idx_cases (fun c => decide (x = c)) l
  have h2 : (0 ≤ idx (fun c => decide (x = c)) l) ↔ l.any (fun c => decide (x = c)) = true := by
    unfold idx
    split
    · rename_i h
      simp [h]
    · rename_i h
      simp [h]
  have h3 : l.any (fun c => decide (x = c)) = l.contains x := by
    rw [Bool.eq_iff_iff, List.any_eq_true, List.contains_iff_mem]
    constructor
    · rintro ⟨y, hy, h⟩
      rw [decide_eq_true_eq] at h
      rw [h]; exact hy
    · exact fun h => ⟨x, h, decide_eq_true rfl⟩
  rw [h3] at h2
  cases hc : l.contains x
  · rw [hc] at h2
    have : ¬ 0 ≤ idx (fun c => decide (x = c)) l := fun h => by simpa using h2.1 h
    simp; omega
  · rw [hc] at h2
    have := h2.2 rfl
    simp; omega
end Go.Sim.Tryz
set_option linter.unusedSimpArgs false
set_option linter.unusedVariables false
namespace Go.Sim.Tryz
open Go Go.Sim

theorem band_mask (x : Int) (h0 : 0 ≤ x) (h1 : x < 18446744073709551616) : band .u64 x 4294967295 = x % 4294967296 := by
  obtain ⟨n, rfl⟩ : ∃ n : Nat, x = n := ⟨x.toNat, by omega⟩
  have hn : n < 2 ^ 64 := by omega
  show IntKind.wrap .u64 ((BitVec.ofInt 64 (n : Int) &&& BitVec.ofInt 64 4294967295 : BitVec 64).toNat : Int) = _
  have e1 : (BitVec.ofInt 64 (n : Int)) = BitVec.ofNat 64 n := by
    apply BitVec.eq_of_toNat_eq
    simp
  have e2 : (BitVec.ofInt 64 4294967295) = BitVec.ofNat 64 4294967295 := by decide
  rw [e1, e2, BitVec.toNat_and, BitVec.toNat_ofNat, BitVec.toNat_ofNat, Nat.mod_eq_of_lt hn]
  have e3 : n &&& (4294967295 % 2 ^ 64) = n % 4294967296 := by
    have := Nat.and_two_pow_sub_one_eq_mod n 32
    simpa using this
  rw [e3, IntKind.wrap_u64]
  omega
theorem bshr_32 (x : Int) (h0 : 0 ≤ x) : bshr .u64 x 32 = x / 4294967296 := by
  unfold bshr
  have e : (2 : Int) ^ (min (32 : Int).toNat IntKind.u64.bits) = 4294967296 := by decide
  rw [e, Int.fdiv_eq_ediv_of_nonneg _ (by omega)]

theorem mulHi_eq (x y : Int) (hx0 : 0 ≤ x) (hx1 : x < 18446744073709551616) (hy0 : 0 ≤ y) (hy1 : y < 18446744073709551616) : mulHi x y = x * y / 18446744073709551616 := by
  have dx : 0 ≤ x / 4294967296 ∧ x / 4294967296 ≤ 4294967295 ∧ 0 ≤ x % 4294967296 ∧ x % 4294967296 ≤ 4294967295 ∧ x = 4294967296 * (x / 4294967296) + x % 4294967296 := by omega
  have dy : 0 ≤ y / 4294967296 ∧ y / 4294967296 ≤ 4294967295 ∧ 0 ≤ y % 4294967296 ∧ y % 4294967296 ≤ 4294967295 ∧ y = 4294967296 * (y / 4294967296) + y % 4294967296 := by omega
  unfold mulHi mulW
  rw [bshr_32 x hx0, bshr_32 y hy0, band_mask x hx0 hx1, band_mask y hy0 hy1]
  generalize x / 4294967296 = x1 at dx ⊢
  generalize x % 4294967296 = x0 at dx ⊢
  generalize y / 4294967296 = y1 at dy ⊢
  generalize y % 4294967296 = y0 at dy ⊢
  obtain ⟨a1, a2, a3, a4, rfl⟩ := dx
  obtain ⟨b1, b2, b3, b4, rfl⟩ := dy
  have prod : ∀ u v : Int, 0 ≤ u → u ≤ 4294967295 → 0 ≤ v → v ≤ 4294967295 → 0 ≤ u * v ∧ u * v ≤ 18446744065119617025 := fun u v h1 h2 h3 h4 => by
    refine ⟨Int.mul_nonneg h1 h3, ?_⟩
    have := Int.mul_le_mul h2 h4 h3 (by omega : (0 : Int) ≤ 4294967295)
    omega
  have p11 := prod x1 y1 a1 a2 b1 b2
  have p10 := prod x1 y0 a1 a2 b3 b4
  have p01 := prod x0 y1 a3 a4 b1 b2
  have p00 := prod x0 y0 a3 a4 b3 b4
  have expand : (4294967296 * x1 + x0) * (4294967296 * y1 + y0) = 18446744073709551616 * (x1 * y1) + 4294967296 * (x1 * y0 + x0 * y1) + x0 * y0 := by
    rw [Int.add_mul, Int.mul_add, Int.mul_add]
    have e1 : 4294967296 * x1 * (4294967296 * y1) = 18446744073709551616 * (x1 * y1) := by
      rw [Int.mul_assoc, Int.mul_left_comm x1, ← Int.mul_assoc]; rfl
    have e2 : 4294967296 * x1 * y0 = 4294967296 * (x1 * y0) := Int.mul_assoc _ _ _
    have e3 : x0 * (4294967296 * y1) = 4294967296 * (x0 * y1) := Int.mul_left_comm _ _ _
    rw [e1, e2, e3]
    omega
  rw [expand]
  generalize x1 * y1 = q11 at p11 ⊢
  generalize x1 * y0 = q10 at p10 ⊢
  generalize x0 * y1 = q01 at p01 ⊢
  generalize x0 * y0 = q00 at p00 ⊢
  simp only [IntKind.wrap_u64]
  have e00 : q00 % 18446744073709551616 = q00 := by omega
  have e10 : q10 % 18446744073709551616 = q10 := by omega
  have e01 : q01 % 18446744073709551616 = q01 := by omega
  have e11 : q11 % 18446744073709551616 = q11 := by omega
  rw [e00, e10, e01, e11, bshr_32 q00 p00.1]
  have eW : (q10 + q00 / 4294967296) % 18446744073709551616 = q10 + q00 / 4294967296 := by omega
  rw [eW, bshr_32 _ (by omega), band_mask _ (by omega) (by omega)]
  generalize hw : q10 + q00 / 4294967296 = W
  have eW2 : (W % 4294967296 + q01) % 18446744073709551616 = W % 4294967296 + q01 := by omega
  rw [eW2, bshr_32 _ (by omega)]
  omega

def In64 (n : Int) : Prop := -9223372036854775808 ≤ n ∧ n ≤ 9223372036854775807
end Go.Sim.Tryz
set_option linter.unusedSimpArgs false
set_option linter.unusedVariables false
set_option maxRecDepth 100000
namespace Go.Sim.Tryz
open Go Go.Sim
attribute [local push_cast] aops_cons aops_nil aopG_none aopG_some aopP_eq aopE_eq aopC_eq aopE?_eq aopC?_eq aopB_eq aopB?_eq abr anilq gopP_eq gopL_eq ahead_cons ahead_nil ahdG_none ahdG_some ahdP_eq ahdN_eq ahdC_eq ahdN?_eq ahdS_eq ahdS?_eq astoreN ahdC?_eq ghdP_eq ghdC_eq ghdC?_eq ghdZ_f ghdZ_t ahdI_eq ahdI?_eq ghdN?_eq aim_nil aim_cons isIn_nil isIn_none isIn_cons aimm aheP_eq aheA_eq aheC_eq aheC?_eq aheI?_eq aheA?_eq gheP_eq gheC_eq gheC?_eq gheZ_eq aheG_none aheG_some aheff_cons aheff_nil aapp gro_rsl gro_lit gro_esl opt_some opt_none no_eq acondT_true acondT_false acondT_lit aw_skip aw_region aw_regionD aw_seq aw_cond aw_block aw_loop aw_exit aw_label aw_ret thn_normal thn_exit thn_ret inb_normal inb_exit inb_ret qret_ret qret_normal gcond apure aeff anew acallee ares aresT aresL aresC ares1 qfin_eq ev ofV evL gokL tget tput_some tput_none initT abin aint aun aload afaddr aiaddr afield aindex aextract apick pickv_lit Bool.or_false Bool.false_or Bool.or_true Bool.true_or imp_self aslice chunk roomB abound aconv abuild afill splice alen aminmax abuiltin anil apart Value.oneCell' astore aappend srcEs abuildSlice asets isEq plus_obj plus_nxt plus_add plus_set plus_del IntKind.bits Option.map_some Option.map_none Option.bind_some Option.bind_none Option.join_some Option.getD_some Option.getD_none Option.toList Option.isSome_some List.getElem?_toArray List.getElem?_cons_zero List.getElem?_cons_succ List.getElem?_nil List.length_cons List.length_nil List.length_map List.head?_cons List.cons_append List.nil_append List.append_nil List.map_cons List.map_nil List.getD_cons_zero List.getD_cons_succ List.replicate_succ List.replicate_zero List.set_cons_zero List.set_cons_succ List.take_succ_cons List.take_zero List.drop_succ_cons List.drop_zero List.all_cons List.all_nil Nat.zero_add if_true if_false true_and and_true false_and and_false true_implies implies_true forall_const Bool.and_true Bool.true_and Bool.false_and Bool.and_false Bool.true_beq Bool.false_beq Bool.not_not beq_tt beq_ff Int.toNat_natCast decide_true decide_false Bool.not_true Bool.not_false Bool.true_eq_false Bool.false_eq_true false_implies exists_prop eq_self bne_self_eq_false beq_self_eq_true decide_eq_true_eq decide_eq_false_iff_not Bool.not_eq_true' Bool.not_eq_false' AV.int AV.bool AV.nilS ne_eq not_false_eq_true not_true_eq_false exists_eq_left exists_eq_left' Nat.lt_irrefl core_lit grd_lit acells_lit one_lit core_agg grd_agg acells_agg one_agg core_tup grd_tup acells_tup one_tup core_sl grd_sl acells_sl one_sl core_esl grd_esl acells_esl one_esl core_rsl grd_rsl acells_rsl one_rsl core_ptr grd_ptr acells_ptr one_ptr core_iptr grd_iptr acells_iptr one_iptr core_clo grd_clo acells_clo one_clo core_mp grd_mp acells_mp one_mp core_any grd_any acells_any one_any core_gv grd_gv fit_agg fit_lit fit_sl fit_esl fit_rsl fit_ptr fit_iptr fit_clo fit_mp retq_ret retq_normal set_nxt set_set plus_obj_set plus_set_set app_get0 app_get app_set0 app_set List.append_assoc List.length_append List.length_set Nat.lt_add_one Nat.add_lt_add_iff_right Nat.lt_add_right_iff_pos Nat.add_lt_add_iff_left List.mem_cons List.not_mem_nil or_false forall_eq forall_eq_or_imp lt_s0 lt_s1 lt_s2 lt_s3 lt_s4 lt_s5 lt_s6 lt_s7 lt_s8 pickv_t pickv_f or_nand or_nand2 imp_and_l SealT SealOs sealO_cells sl_lit sl_any sl_agg sl_tup sl_sl sl_rsl slO sl_esl sl_nil sl_eslesl sl_eslnil sl_rslrsl sl_eslrsl sl_nilrsl sl_ptr sl_iptr sl_ptri slP sl_clo sl_mp sl_gv sll_nil sll_cons slll_nil slll_cons shut_eq shutO Option.join_none Fn.func.injEq and_self sealL_self sealLL_self seal_self PureL PureLL Pure Nat.le_refl Nat.zero_le AV.lit.injEq Value.int.injEq Value.bool.injEq false_or or_true true_or Int.natCast_zero Int.ofNat_zero Int.cast_ofNat_Int Int.natCast_add Int.natCast_one Option.some.injEq piL_is sop_nil sop_cons sop_none sop_some sopO_some sop_new shut_pi shutL_nil shutL_cons exQ_exit exQ_ret exQ_normal Go.Sim.Tryz.ty_load1 Go.Sim.Tryz.ty_zero1 Go.Sim.Tryz.ty_load2 Go.Sim.Tryz.ty_zero2 Go.Sim.Tryz.ty_und2 Go.Sim.Tryz.ty_load3 Go.Sim.Tryz.ty_zero3 Go.Sim.Tryz.ty_und3 Go.Sim.Tryz.ty_load4 Go.Sim.Tryz.ty_zero4 Go.Sim.Tryz.ty_und4 Go.Sim.Tryz.ty_load5 Go.Sim.Tryz.ty_zero5 Go.Sim.Tryz.ty_und5 Go.Sim.Tryz.ty_load9 Go.Sim.Tryz.ty_zero9 Go.Sim.Tryz.ty_und9 Go.Sim.Tryz.ty_load22 Go.Sim.Tryz.ty_zero22 Go.Sim.Tryz.ty_el22 Go.Sim.Tryz.ty_zeroE22 Go.Sim.Tryz.ty_load24 Go.Sim.Tryz.ty_zero24 Go.Sim.Tryz.ty_fld24_0 Go.Sim.Tryz.ty_part24_0 Go.Sim.Tryz.ty_struct24 Go.Sim.Tryz.ty_load25 Go.Sim.Tryz.ty_zero25 Go.Sim.Tryz.ty_el25 Go.Sim.Tryz.ty_zeroE25 Go.Sim.Tryz.ty_load26 Go.Sim.Tryz.ty_zero26 Go.Sim.Tryz.ty_el26 Go.Sim.Tryz.ty_zeroE26 Go.Sim.Tryz.ty_load28 Go.Sim.Tryz.ty_zero28 Go.Sim.Tryz.ty_fld28_0 Go.Sim.Tryz.ty_part28_0 Go.Sim.Tryz.ty_fld28_1 Go.Sim.Tryz.ty_part28_1 Go.Sim.Tryz.ty_fld28_2 Go.Sim.Tryz.ty_part28_2 Go.Sim.Tryz.ty_fld28_3 Go.Sim.Tryz.ty_part28_3 Go.Sim.Tryz.ty_fld28_4 Go.Sim.Tryz.ty_part28_4 Go.Sim.Tryz.ty_fld28_5 Go.Sim.Tryz.ty_part28_5 Go.Sim.Tryz.ty_struct28 Go.Sim.Tryz.ty_load36 Go.Sim.Tryz.ty_zero36 Go.Sim.Tryz.ty_fld36_0 Go.Sim.Tryz.ty_part36_0 Go.Sim.Tryz.ty_fld36_1 Go.Sim.Tryz.ty_part36_1 Go.Sim.Tryz.ty_struct36 Go.Sim.Tryz.ty_load38 Go.Sim.Tryz.ty_zero38 Go.Sim.Tryz.ty_fld38_0 Go.Sim.Tryz.ty_part38_0 Go.Sim.Tryz.ty_fld38_1 Go.Sim.Tryz.ty_part38_1 Go.Sim.Tryz.ty_fld38_2 Go.Sim.Tryz.ty_part38_2 Go.Sim.Tryz.ty_fld38_3 Go.Sim.Tryz.ty_part38_3 Go.Sim.Tryz.ty_struct38 Go.Sim.Tryz.ty_load48 Go.Sim.Tryz.ty_zero48 Go.Sim.Tryz.ty_el48 Go.Sim.Tryz.ty_zeroE48 Go.Sim.Tryz.ty_load51 Go.Sim.Tryz.ty_zero51 Go.Sim.Tryz.ty_arr51 Go.Sim.Tryz.ty_part51_0 Go.Sim.Tryz.ty_part51_1 Go.Sim.Tryz.ty_struct51 Go.Sim.Tryz.ty_load59 Go.Sim.Tryz.ty_zero59 Go.Sim.Tryz.ty_fld59_0 Go.Sim.Tryz.ty_part59_0 Go.Sim.Tryz.ty_fld59_1 Go.Sim.Tryz.ty_part59_1 Go.Sim.Tryz.ty_struct59 Go.Sim.Tryz.ty_load60 Go.Sim.Tryz.ty_zero60 Go.Sim.Tryz.ty_el60 Go.Sim.Tryz.ty_zeroE60 Go.Sim.Tryz.ty_load62 Go.Sim.Tryz.ty_zero62 Go.Sim.Tryz.ty_fld62_0 Go.Sim.Tryz.ty_part62_0 Go.Sim.Tryz.ty_struct62 Go.Sim.Tryz.ty_load67 Go.Sim.Tryz.ty_zero67 Go.Sim.Tryz.ty_load68 Go.Sim.Tryz.ty_zero68 Go.Sim.Tryz.ty_load75 Go.Sim.Tryz.ty_zero75 Go.Sim.Tryz.ty_load76 Go.Sim.Tryz.ty_zero76 Go.Sim.Tryz.ty_und76 Go.Sim.Tryz.ty_load82 Go.Sim.Tryz.ty_zero82 Go.Sim.Tryz.ty_und82 Go.Sim.Tryz.ty_load85 Go.Sim.Tryz.ty_zero85 Go.Sim.Tryz.ty_und85 Go.Sim.Tryz.ty_load89 Go.Sim.Tryz.ty_zero89 Go.Sim.Tryz.ty_el89 Go.Sim.Tryz.ty_zeroE89 Go.Sim.Tryz.ty_load90 Go.Sim.Tryz.ty_zero90 Go.Sim.Tryz.ty_el90 Go.Sim.Tryz.ty_zeroE90 Go.Sim.Tryz.ty_load93 Go.Sim.Tryz.ty_zero93 Go.Sim.Tryz.ty_load98 Go.Sim.Tryz.ty_zero98 Go.Sim.Tryz.ty_fld98_0 Go.Sim.Tryz.ty_part98_0 Go.Sim.Tryz.ty_fld98_1 Go.Sim.Tryz.ty_part98_1 Go.Sim.Tryz.ty_fld98_2 Go.Sim.Tryz.ty_part98_2 Go.Sim.Tryz.ty_struct98 Go.Sim.Tryz.ty_load100 Go.Sim.Tryz.ty_zero100 Go.Sim.Tryz.ty_load106 Go.Sim.Tryz.ty_zero106 Go.Sim.Tryz.ty_load110 Go.Sim.Tryz.ty_zero110 Go.Sim.Tryz.ty_und110 Go.Sim.Tryz.ty_load118 Go.Sim.Tryz.ty_zero118 Go.Sim.Tryz.ty_und118 Go.Sim.Tryz.ty_load121 Go.Sim.Tryz.ty_zero121 Go.Sim.Tryz.ty_load128 Go.Sim.Tryz.ty_zero128 Go.Sim.Tryz.ty_und128 Go.Sim.Tryz.ty_load132 Go.Sim.Tryz.ty_zero132 encE_mk encE_take encE_len encV encE_one encEs_pure encE_pure

theorem encDs_getN (c : List Df) (n : Nat) (h : n < c.length) : (c.map encD).getD n [] = encD c[n] := by
  rw [List.getD_eq_getElem?_getD, List.getElem?_map, List.getElem?_eq_getElem h]; rfl
theorem encDs_none (c : List Df) (n : Nat) (h : ¬ n < c.length) : (c.map encD).getD n [] = [] := by
  rw [List.getD_eq_getElem?_getD, List.getElem?_eq_none (by simp; omega)]; rfl
theorem column_ok (c : List Df) (hcl : c.length ≤ 1000000) (q : Qy) (hl : q.occ.length ≤ 1000000) (id : Int) (hid : In64 id) : Quiet Go.Proofs.Tryz.prog 74 [.agg [.sl (c.map encD)], .agg (encQ q), .int id] (.bool (isCol c q id)) := by
  unfold In64 at hid
  refine quiet_of (rs := #[.tmp 6]) Go.Proofs.Tryz.func74 rfl rfl rfl mixed rfl rfl fun H hs => ?_
  by_cases h0 : 0 ≤ id ∧ id ≤ 15
  · obtain ⟨k, hk⟩ : ∃ k : Nat, id / 4 = k := ⟨(id / 4).toNat, by omega⟩
    have hq : IntKind.wrap .i64 (Int.tdiv id 4) = k := by
      rw [Int.tdiv_eq_ediv_of_nonneg h0.1, wrap64 (by omega) (by omega), hk]
    have hm : Int.tmod id 4 = id % 4 := Int.tmod_eq_emod_of_nonneg h0.1
    have hk0 : (0 ≤ (k : Int)) = True := by simp
    by_cases hkl : k < q.occ.length
    · have hk' : ((k : Int) < (q.occ.length : Int)) = True := by simp; omega
      have hocc : q.occ.getD k (-1) = q.occ[k] := by rw [List.getD_eq_getElem?_getD, List.getElem?_eq_getElem hkl]; rfl
      have hcond : (decide (id < 0) || decide (15 < id) || decide ((q.occ.length : Int) ≤ (k : Int))) = false := by
        simp only [Bool.or_eq_false_iff, decide_eq_false_iff_not]; omega
      have his : isCol c q id = decide (id % 4 < tabCols c q.occ[k]) := by
        unfold isCol
        rw [decide_eq_true h0.1, decide_eq_true h0.2, hk, decide_eq_true (show (k : Int) < q.occ.length by omega), Int.toNat_natCast, hocc]
        rfl
      rw [his]
      by_cases ht : 0 ≤ q.occ[k] ∧ q.occ[k] < c.length
      · obtain ⟨t, htn⟩ : ∃ t : Nat, q.occ[k] = t := ⟨q.occ[k].toNat, by omega⟩
        have htl : t < c.length := by omega
        have htab : tabCols c q.occ[k] = c[t].cols := by
          rw [tabCols, if_pos ht, htn, Int.toNat_natCast, List.getD_eq_getElem?_getD, List.getElem?_eq_getElem htl]
          rfl
        rw [htab]
        have ht0 : (0 ≤ (t : Int)) = True := by simp
        have ht1 : ((t : Int) < (c.length : Int)) = True := by simp; omega
        simp -implicitDefEqProofs only [push_cast, Nat.reduceAdd, Nat.reduceSub, Nat.reduceMul, Nat.reduceLT, Nat.reduceLeDiff, Nat.reduceEqDiff, Nat.reduceBEq, reduceCtorEq, reduceIte, Int.reduceLE, Int.reduceLT, Int.reduceNeg, Int.reduceToNat, encQ, hq, hm, hk0, hk', encIs_get q.occ k hkl, encI, htn, ht0, ht1, encDs_get c t htl, encD]
        refine ⟨fun _ => by omega, fun h => ?_, fun _ => by omega⟩
        rw [hcond] at h; cases h
      · have hg : (decide (0 ≤ q.occ[k]) && decide (q.occ[k] < (c.length : Int))) = false := by
          rw [Bool.eq_false_iff]
          intro h
          simp only [Bool.and_eq_true, decide_eq_true_eq] at h
          exact ht h
        have hno : decide (id % 4 < tabCols c q.occ[k]) = false := by
          rw [tabCols, if_neg ht]; simp; omega
        rw [hno]
        by_cases hn : q.occ[k].toNat < c.length
        · simp -implicitDefEqProofs only [push_cast, Nat.reduceAdd, Nat.reduceSub, Nat.reduceMul, Nat.reduceLT, Nat.reduceLeDiff, Nat.reduceEqDiff, Nat.reduceBEq, reduceCtorEq, reduceIte, Int.reduceLE, Int.reduceLT, Int.reduceNeg, Int.reduceToNat, encQ, hq, hm, hk0, hk', encIs_get q.occ k hkl, encI, hg, hcond, encDs_getN c _ hn, encD]
          exact ⟨fun _ => by omega, by omega⟩
        · simp -implicitDefEqProofs only [push_cast, Nat.reduceAdd, Nat.reduceSub, Nat.reduceMul, Nat.reduceLT, Nat.reduceLeDiff, Nat.reduceEqDiff, Nat.reduceBEq, reduceCtorEq, reduceIte, Int.reduceLE, Int.reduceLT, Int.reduceNeg, Int.reduceToNat, encQ, hq, hm, hk0, hk', encIs_get q.occ k hkl, encI, hg, hcond, encDs_none c _ hn, List.getD_nil]
          refine ⟨fun _ => by omega, by omega, gskip ?_⟩
          simp -implicitDefEqProofs only [push_cast, Nat.reduceAdd, Nat.reduceSub, Nat.reduceMul, Nat.reduceLT, Nat.reduceLeDiff, Nat.reduceEqDiff, Nat.reduceBEq, reduceCtorEq, reduceIte, Int.reduceLE, Int.reduceLT, Int.reduceNeg, Int.reduceToNat]
    · have hcond : (decide (id < 0) || decide (15 < id) || decide ((q.occ.length : Int) ≤ (k : Int))) = true := by
        simp only [Bool.or_eq_true, decide_eq_true_eq]; omega
      have hno : isCol c q id = false := by
        unfold isCol
        rw [hk, decide_eq_false (show ¬ (k : Int) < q.occ.length by omega)]
        simp
      simp -implicitDefEqProofs only [push_cast, Nat.reduceAdd, Nat.reduceSub, Nat.reduceMul, Nat.reduceLT, Nat.reduceLeDiff, Nat.reduceEqDiff, Nat.reduceBEq, reduceCtorEq, reduceIte, Int.reduceLE, Int.reduceLT, Int.reduceNeg, Int.reduceToNat, encQ, hq, hm, hk0, hcond]
      exact ⟨fun _ => by omega, hno.symm⟩
  · have hcond : (decide (id < 0) || decide (15 < id)) = true := by
      simp only [Bool.or_eq_true, decide_eq_true_eq]; omega
    have hno : isCol c q id = false := by
      unfold isCol
      simp only [Bool.or_eq_true, decide_eq_true_eq] at hcond
      rcases hcond with h | h
      · rw [decide_eq_false (show ¬ 0 ≤ id by omega)]; rfl
      · rw [decide_eq_false (show ¬ id ≤ 15 by omega)]; simp
    simp -implicitDefEqProofs only [push_cast, Nat.reduceAdd, Nat.reduceSub, Nat.reduceMul, Nat.reduceLT, Nat.reduceLeDiff, Nat.reduceEqDiff, Nat.reduceBEq, reduceCtorEq, reduceIte, Int.reduceLE, Int.reduceLT, Int.reduceNeg, Int.reduceToNat, encQ, hcond]
    exact hno.symm
end Go.Sim.Tryz
set_option linter.unusedSimpArgs false
set_option linter.unusedVariables false
set_option maxRecDepth 100000
namespace Go.Sim.Tryz
open Go Go.Sim
attribute [local push_cast] aops_cons aops_nil aopG_none aopG_some aopP_eq aopE_eq aopC_eq aopE?_eq aopC?_eq aopB_eq aopB?_eq abr anilq gopP_eq gopL_eq ahead_cons ahead_nil ahdG_none ahdG_some ahdP_eq ahdN_eq ahdC_eq ahdN?_eq ahdS_eq ahdS?_eq astoreN ahdC?_eq ghdP_eq ghdC_eq ghdC?_eq ghdZ_f ghdZ_t ahdI_eq ahdI?_eq ghdN?_eq aim_nil aim_cons isIn_nil isIn_none isIn_cons aimm aheP_eq aheA_eq aheC_eq aheC?_eq aheI?_eq aheA?_eq gheP_eq gheC_eq gheC?_eq gheZ_eq aheG_none aheG_some aheff_cons aheff_nil aapp gro_rsl gro_lit gro_esl opt_some opt_none no_eq acondT_true acondT_false acondT_lit aw_skip aw_region aw_regionD aw_seq aw_cond aw_block aw_loop aw_exit aw_label aw_ret thn_normal thn_exit thn_ret inb_normal inb_exit inb_ret qret_ret qret_normal gcond apure aeff anew acallee ares aresT aresL aresC ares1 qfin_eq ev ofV evL gokL tget tput_some tput_none initT abin aint aun aload afaddr aiaddr afield aindex aextract apick pickv_lit Bool.or_false Bool.false_or Bool.or_true Bool.true_or imp_self aslice chunk roomB abound aconv abuild afill splice alen aminmax abuiltin anil apart Value.oneCell' astore aappend srcEs abuildSlice asets isEq plus_obj plus_nxt plus_add plus_set plus_del IntKind.bits Option.map_some Option.map_none Option.bind_some Option.bind_none Option.join_some Option.getD_some Option.getD_none Option.toList Option.isSome_some List.getElem?_toArray List.getElem?_cons_zero List.getElem?_cons_succ List.getElem?_nil List.length_cons List.length_nil List.length_map List.head?_cons List.cons_append List.nil_append List.append_nil List.map_cons List.map_nil List.getD_cons_zero List.getD_cons_succ List.replicate_succ List.replicate_zero List.set_cons_zero List.set_cons_succ List.take_succ_cons List.take_zero List.drop_succ_cons List.drop_zero List.all_cons List.all_nil Nat.zero_add if_true if_false true_and and_true false_and and_false true_implies implies_true forall_const Bool.and_true Bool.true_and Bool.false_and Bool.and_false Bool.true_beq Bool.false_beq Bool.not_not beq_tt beq_ff Int.toNat_natCast decide_true decide_false Bool.not_true Bool.not_false Bool.true_eq_false Bool.false_eq_true false_implies exists_prop eq_self bne_self_eq_false beq_self_eq_true decide_eq_true_eq decide_eq_false_iff_not Bool.not_eq_true' Bool.not_eq_false' AV.int AV.bool AV.nilS ne_eq not_false_eq_true not_true_eq_false exists_eq_left exists_eq_left' Nat.lt_irrefl core_lit grd_lit acells_lit one_lit core_agg grd_agg acells_agg one_agg core_tup grd_tup acells_tup one_tup core_sl grd_sl acells_sl one_sl core_esl grd_esl acells_esl one_esl core_rsl grd_rsl acells_rsl one_rsl core_ptr grd_ptr acells_ptr one_ptr core_iptr grd_iptr acells_iptr one_iptr core_clo grd_clo acells_clo one_clo core_mp grd_mp acells_mp one_mp core_any grd_any acells_any one_any core_gv grd_gv fit_agg fit_lit fit_sl fit_esl fit_rsl fit_ptr fit_iptr fit_clo fit_mp retq_ret retq_normal set_nxt set_set plus_obj_set plus_set_set app_get0 app_get app_set0 app_set List.append_assoc List.length_append List.length_set Nat.lt_add_one Nat.add_lt_add_iff_right Nat.lt_add_right_iff_pos Nat.add_lt_add_iff_left List.mem_cons List.not_mem_nil or_false forall_eq forall_eq_or_imp lt_s0 lt_s1 lt_s2 lt_s3 lt_s4 lt_s5 lt_s6 lt_s7 lt_s8 pickv_t pickv_f or_nand or_nand2 imp_and_l SealT SealOs sealO_cells sl_lit sl_any sl_agg sl_tup sl_sl sl_rsl slO sl_esl sl_nil sl_eslesl sl_eslnil sl_rslrsl sl_eslrsl sl_nilrsl sl_ptr sl_iptr sl_ptri slP sl_clo sl_mp sl_gv sll_nil sll_cons slll_nil slll_cons shut_eq shutO Option.join_none Fn.func.injEq and_self sealL_self sealLL_self seal_self PureL PureLL Pure Nat.le_refl Nat.zero_le AV.lit.injEq Value.int.injEq Value.bool.injEq false_or or_true true_or Int.natCast_zero Int.ofNat_zero Int.cast_ofNat_Int Int.natCast_add Int.natCast_one Option.some.injEq piL_is sop_nil sop_cons sop_none sop_some sopO_some sop_new shut_pi shutL_nil shutL_cons exQ_exit exQ_ret exQ_normal Go.Sim.Tryz.ty_load1 Go.Sim.Tryz.ty_zero1 Go.Sim.Tryz.ty_load2 Go.Sim.Tryz.ty_zero2 Go.Sim.Tryz.ty_und2 Go.Sim.Tryz.ty_load3 Go.Sim.Tryz.ty_zero3 Go.Sim.Tryz.ty_und3 Go.Sim.Tryz.ty_load4 Go.Sim.Tryz.ty_zero4 Go.Sim.Tryz.ty_und4 Go.Sim.Tryz.ty_load5 Go.Sim.Tryz.ty_zero5 Go.Sim.Tryz.ty_und5 Go.Sim.Tryz.ty_load9 Go.Sim.Tryz.ty_zero9 Go.Sim.Tryz.ty_und9 Go.Sim.Tryz.ty_load22 Go.Sim.Tryz.ty_zero22 Go.Sim.Tryz.ty_el22 Go.Sim.Tryz.ty_zeroE22 Go.Sim.Tryz.ty_load24 Go.Sim.Tryz.ty_zero24 Go.Sim.Tryz.ty_fld24_0 Go.Sim.Tryz.ty_part24_0 Go.Sim.Tryz.ty_struct24 Go.Sim.Tryz.ty_load25 Go.Sim.Tryz.ty_zero25 Go.Sim.Tryz.ty_el25 Go.Sim.Tryz.ty_zeroE25 Go.Sim.Tryz.ty_load26 Go.Sim.Tryz.ty_zero26 Go.Sim.Tryz.ty_el26 Go.Sim.Tryz.ty_zeroE26 Go.Sim.Tryz.ty_load28 Go.Sim.Tryz.ty_zero28 Go.Sim.Tryz.ty_fld28_0 Go.Sim.Tryz.ty_part28_0 Go.Sim.Tryz.ty_fld28_1 Go.Sim.Tryz.ty_part28_1 Go.Sim.Tryz.ty_fld28_2 Go.Sim.Tryz.ty_part28_2 Go.Sim.Tryz.ty_fld28_3 Go.Sim.Tryz.ty_part28_3 Go.Sim.Tryz.ty_fld28_4 Go.Sim.Tryz.ty_part28_4 Go.Sim.Tryz.ty_fld28_5 Go.Sim.Tryz.ty_part28_5 Go.Sim.Tryz.ty_struct28 Go.Sim.Tryz.ty_load36 Go.Sim.Tryz.ty_zero36 Go.Sim.Tryz.ty_fld36_0 Go.Sim.Tryz.ty_part36_0 Go.Sim.Tryz.ty_fld36_1 Go.Sim.Tryz.ty_part36_1 Go.Sim.Tryz.ty_struct36 Go.Sim.Tryz.ty_load38 Go.Sim.Tryz.ty_zero38 Go.Sim.Tryz.ty_fld38_0 Go.Sim.Tryz.ty_part38_0 Go.Sim.Tryz.ty_fld38_1 Go.Sim.Tryz.ty_part38_1 Go.Sim.Tryz.ty_fld38_2 Go.Sim.Tryz.ty_part38_2 Go.Sim.Tryz.ty_fld38_3 Go.Sim.Tryz.ty_part38_3 Go.Sim.Tryz.ty_struct38 Go.Sim.Tryz.ty_load48 Go.Sim.Tryz.ty_zero48 Go.Sim.Tryz.ty_el48 Go.Sim.Tryz.ty_zeroE48 Go.Sim.Tryz.ty_load51 Go.Sim.Tryz.ty_zero51 Go.Sim.Tryz.ty_arr51 Go.Sim.Tryz.ty_part51_0 Go.Sim.Tryz.ty_part51_1 Go.Sim.Tryz.ty_struct51 Go.Sim.Tryz.ty_load59 Go.Sim.Tryz.ty_zero59 Go.Sim.Tryz.ty_fld59_0 Go.Sim.Tryz.ty_part59_0 Go.Sim.Tryz.ty_fld59_1 Go.Sim.Tryz.ty_part59_1 Go.Sim.Tryz.ty_struct59 Go.Sim.Tryz.ty_load60 Go.Sim.Tryz.ty_zero60 Go.Sim.Tryz.ty_el60 Go.Sim.Tryz.ty_zeroE60 Go.Sim.Tryz.ty_load62 Go.Sim.Tryz.ty_zero62 Go.Sim.Tryz.ty_fld62_0 Go.Sim.Tryz.ty_part62_0 Go.Sim.Tryz.ty_struct62 Go.Sim.Tryz.ty_load67 Go.Sim.Tryz.ty_zero67 Go.Sim.Tryz.ty_load68 Go.Sim.Tryz.ty_zero68 Go.Sim.Tryz.ty_load75 Go.Sim.Tryz.ty_zero75 Go.Sim.Tryz.ty_load76 Go.Sim.Tryz.ty_zero76 Go.Sim.Tryz.ty_und76 Go.Sim.Tryz.ty_load82 Go.Sim.Tryz.ty_zero82 Go.Sim.Tryz.ty_und82 Go.Sim.Tryz.ty_load85 Go.Sim.Tryz.ty_zero85 Go.Sim.Tryz.ty_und85 Go.Sim.Tryz.ty_load89 Go.Sim.Tryz.ty_zero89 Go.Sim.Tryz.ty_el89 Go.Sim.Tryz.ty_zeroE89 Go.Sim.Tryz.ty_load90 Go.Sim.Tryz.ty_zero90 Go.Sim.Tryz.ty_el90 Go.Sim.Tryz.ty_zeroE90 Go.Sim.Tryz.ty_load93 Go.Sim.Tryz.ty_zero93 Go.Sim.Tryz.ty_load98 Go.Sim.Tryz.ty_zero98 Go.Sim.Tryz.ty_fld98_0 Go.Sim.Tryz.ty_part98_0 Go.Sim.Tryz.ty_fld98_1 Go.Sim.Tryz.ty_part98_1 Go.Sim.Tryz.ty_fld98_2 Go.Sim.Tryz.ty_part98_2 Go.Sim.Tryz.ty_struct98 Go.Sim.Tryz.ty_load100 Go.Sim.Tryz.ty_zero100 Go.Sim.Tryz.ty_load106 Go.Sim.Tryz.ty_zero106 Go.Sim.Tryz.ty_load110 Go.Sim.Tryz.ty_zero110 Go.Sim.Tryz.ty_und110 Go.Sim.Tryz.ty_load118 Go.Sim.Tryz.ty_zero118 Go.Sim.Tryz.ty_und118 Go.Sim.Tryz.ty_load121 Go.Sim.Tryz.ty_zero121 Go.Sim.Tryz.ty_load128 Go.Sim.Tryz.ty_zero128 Go.Sim.Tryz.ty_und128 Go.Sim.Tryz.ty_load132 Go.Sim.Tryz.ty_zero132 encE_mk encE_take encE_len encV encE_one encEs_pure encE_pure

theorem plus_obj' (H : AH) (l : List (Option AObj)) (j : Nat) : (H.plus l).obj j = if j < H.nxt then H.obj j else (l[j - H.nxt]?).join := rfl
theorem plus_plus (H : AH) (l m : List (Option AObj)) : (H.plus l).plus m = H.plus (l ++ m) := by
  refine ah_ext (fun j => ?_) (by simp only [plus_nxt, List.length_append]; omega)
  rw [plus_obj' (H.plus l), plus_obj' H, plus_obj' H, plus_nxt]
  by_cases h1 : j < H.nxt
  · rw [if_pos (by omega), if_pos h1, if_pos h1]
  · rw [if_neg h1, if_neg h1]
    by_cases h2 : j < H.nxt + l.length
    · rw [if_pos h2, List.getElem?_append_left (by omega)]
    · rw [if_neg h2, List.getElem?_append_right (by omega)]
      congr 2
      omega
theorem clone_ok (zs : List Int) (hz : zs.length ≤ 1000000) (H : AH) : ACalls Go.Proofs.Tryz.prog 87 [.sl (rowI zs)] H
    (fun r H' => (r = .rsl (H.nxt + 1) 1 0 zs.length ∧ H' = H.plus [none, some (.cells 1 (rowI zs) 0)]) ∨ (zs = [] ∧ r = .nilS ∧ H' = H.plus [])) := by
  refine acalls_sc (rs := #[.tmp 2]) Go.Proofs.Tryz.func87 rfl rfl rfl mixed rfl (Nat.le_of_ble_eq_true rfl) fun hs _ => ?_
  simp -implicitDefEqProofs only [push_cast, Nat.reduceAdd, Nat.reduceSub, Nat.reduceMul, Nat.reduceLT, Nat.reduceLeDiff, Nat.reduceEqDiff, Nat.reduceBEq, reduceCtorEq, reduceIte, Int.reduceLE, Int.reduceLT, Int.reduceNeg, Int.reduceToNat]
  intro b hb
  simp -implicitDefEqProofs only [push_cast, Nat.reduceAdd, Nat.reduceSub, Nat.reduceMul, Nat.reduceLT, Nat.reduceLeDiff, Nat.reduceEqDiff, Nat.reduceBEq, reduceCtorEq, reduceIte, Int.reduceLE, Int.reduceLT, Int.reduceNeg, Int.reduceToNat]
  refine ⟨fun h => retk trivial (.inr ⟨?_, rfl, rfl⟩), fun h => ⟨⟨of_eq_true (rowI_one zs), fun e he => ?_, by omega⟩, retk trivial (.inl ⟨rfl, rfl⟩)⟩⟩
  · cases zs with
    | nil => rfl
    | cons z zs => rw [h] at hb; exact absurd (hb rfl) (by decide)
  · simp only [rowI, List.mem_map] at he
    obtain ⟨x, _, rfl⟩ := he
    rfl
theorem once_ok (zs : List Int) (hz : zs.length ≤ 1000000) : Quiet Go.Proofs.Tryz.prog 57 [.sl (rowI zs)] (.bool (decide ((uniq zs).length = zs.length))) := by
  refine quiet_of (rs := #[.tmp 2]) Go.Proofs.Tryz.func57 rfl rfl rfl mixed rfl rfl fun H hs => ?_
  simp -implicitDefEqProofs only [push_cast, Nat.reduceAdd, Nat.reduceSub, Nat.reduceMul, Nat.reduceLT, Nat.reduceLeDiff, Nat.reduceEqDiff, Nat.reduceBEq, reduceCtorEq, reduceIte, Int.reduceLE, Int.reduceLT, Int.reduceNeg, Int.reduceToNat]
  refine (clone_ok zs hz _).mono ?_
  rintro r H' (⟨rfl, rfl⟩ | ⟨rfl, rfl, rfl⟩)
  · simp -implicitDefEqProofs only [push_cast, Nat.reduceAdd, Nat.reduceSub, Nat.reduceMul, Nat.reduceLT, Nat.reduceLeDiff, Nat.reduceEqDiff, Nat.reduceBEq, reduceCtorEq, reduceIte, Int.reduceLE, Int.reduceLT, Int.reduceNeg, Int.reduceToNat, plus_plus, Nat.add_zero]
    have hrow : (H.plus [none, some (.cells 1 (rowI zs) 0)]).obj (H.nxt + 1) = some (.cells 1 (rowI zs) 0) := by rw [plus_obj]; rfl
    refine (sort_ok (i := H.nxt + 1) (zs := zs) (by omega) hrow).mono ?_
    rintro r H3 ⟨rfl, rfl⟩
    simp -implicitDefEqProofs only [push_cast, Nat.reduceAdd, Nat.reduceSub, Nat.reduceMul, Nat.reduceLT, Nat.reduceLeDiff, Nat.reduceEqDiff, Nat.reduceBEq, reduceCtorEq, reduceIte, Int.reduceLE, Int.reduceLT, Int.reduceNeg, Int.reduceToNat]
    have hcc := compact_ok (i := H.nxt + 1) (zs := zs.mergeSort fun x y => decide (x ≤ y)) (H := H.plus [none, some (.cells 1 (rowI (zs.mergeSort fun x y => decide (x ≤ y))) 0)]) (by rw [List.length_mergeSort]; omega) (by rw [plus_obj]; rfl)
    rw [List.length_mergeSort] at hcc
    refine hcc.mono ?_
    rintro r H3 ⟨rfl, rfl⟩
    simp -implicitDefEqProofs only [push_cast, Nat.reduceAdd, Nat.reduceSub, Nat.reduceMul, Nat.reduceLT, Nat.reduceLeDiff, Nat.reduceEqDiff, Nat.reduceBEq, reduceCtorEq, reduceIte, Int.reduceLE, Int.reduceLT, Int.reduceNeg, Int.reduceToNat]
    rw [decide_eq_decide, uniq]
    omega
  · simp -implicitDefEqProofs only [push_cast, Nat.reduceAdd, Nat.reduceSub, Nat.reduceMul, Nat.reduceLT, Nat.reduceLeDiff, Nat.reduceEqDiff, Nat.reduceBEq, reduceCtorEq, reduceIte, Int.reduceLE, Int.reduceLT, Int.reduceNeg, Int.reduceToNat, plus_plus, List.append_nil]
    refine (sortN_ok).mono ?_
    rintro r H3 ⟨rfl, rfl⟩
    simp -implicitDefEqProofs only [push_cast, Nat.reduceAdd, Nat.reduceSub, Nat.reduceMul, Nat.reduceLT, Nat.reduceLeDiff, Nat.reduceEqDiff, Nat.reduceBEq, reduceCtorEq, reduceIte, Int.reduceLE, Int.reduceLT, Int.reduceNeg, Int.reduceToNat]
    refine (compactN_ok).mono ?_
    rintro r H3 ⟨rfl, rfl⟩
    simp -implicitDefEqProofs only [push_cast, Nat.reduceAdd, Nat.reduceSub, Nat.reduceMul, Nat.reduceLT, Nat.reduceLeDiff, Nat.reduceEqDiff, Nat.reduceBEq, reduceCtorEq, reduceIte, Int.reduceLE, Int.reduceLT, Int.reduceNeg, Int.reduceToNat]
    simp [uniq, Lib.compact, Lib.compactUpTo]
end Go.Sim.Tryz
set_option linter.unusedSimpArgs false
set_option linter.unusedVariables false
set_option maxRecDepth 100000
namespace Go.Sim.Tryz
open Go Go.Sim
attribute [local push_cast] aops_cons aops_nil aopG_none aopG_some aopP_eq aopE_eq aopC_eq aopE?_eq aopC?_eq aopB_eq aopB?_eq abr anilq gopP_eq gopL_eq ahead_cons ahead_nil ahdG_none ahdG_some ahdP_eq ahdN_eq ahdC_eq ahdN?_eq ahdS_eq ahdS?_eq astoreN ahdC?_eq ghdP_eq ghdC_eq ghdC?_eq ghdZ_f ghdZ_t ahdI_eq ahdI?_eq ghdN?_eq aim_nil aim_cons isIn_nil isIn_none isIn_cons aimm aheP_eq aheA_eq aheC_eq aheC?_eq aheI?_eq aheA?_eq gheP_eq gheC_eq gheC?_eq gheZ_eq aheG_none aheG_some aheff_cons aheff_nil aapp gro_rsl gro_lit gro_esl opt_some opt_none no_eq acondT_true acondT_false acondT_lit aw_skip aw_region aw_regionD aw_seq aw_cond aw_block aw_loop aw_exit aw_label aw_ret thn_normal thn_exit thn_ret inb_normal inb_exit inb_ret qret_ret qret_normal gcond apure aeff anew acallee ares aresT aresL aresC ares1 qfin_eq ev ofV evL gokL tget tput_some tput_none initT abin aint aun aload afaddr aiaddr afield aindex aextract apick pickv_lit Bool.or_false Bool.false_or Bool.or_true Bool.true_or imp_self aslice chunk roomB abound aconv abuild afill splice alen aminmax abuiltin anil apart Value.oneCell' astore aappend srcEs abuildSlice asets isEq plus_obj plus_nxt plus_add plus_set plus_del IntKind.bits Option.map_some Option.map_none Option.bind_some Option.bind_none Option.join_some Option.getD_some Option.getD_none Option.toList Option.isSome_some List.getElem?_toArray List.getElem?_cons_zero List.getElem?_cons_succ List.getElem?_nil List.length_cons List.length_nil List.length_map List.head?_cons List.cons_append List.nil_append List.append_nil List.map_cons List.map_nil List.getD_cons_zero List.getD_cons_succ List.replicate_succ List.replicate_zero List.set_cons_zero List.set_cons_succ List.take_succ_cons List.take_zero List.drop_succ_cons List.drop_zero List.all_cons List.all_nil Nat.zero_add if_true if_false true_and and_true false_and and_false true_implies implies_true forall_const Bool.and_true Bool.true_and Bool.false_and Bool.and_false Bool.true_beq Bool.false_beq Bool.not_not beq_tt beq_ff Int.toNat_natCast decide_true decide_false Bool.not_true Bool.not_false Bool.true_eq_false Bool.false_eq_true false_implies exists_prop eq_self bne_self_eq_false beq_self_eq_true decide_eq_true_eq decide_eq_false_iff_not Bool.not_eq_true' Bool.not_eq_false' AV.int AV.bool AV.nilS ne_eq not_false_eq_true not_true_eq_false exists_eq_left exists_eq_left' Nat.lt_irrefl core_lit grd_lit acells_lit one_lit core_agg grd_agg acells_agg one_agg core_tup grd_tup acells_tup one_tup core_sl grd_sl acells_sl one_sl core_esl grd_esl acells_esl one_esl core_rsl grd_rsl acells_rsl one_rsl core_ptr grd_ptr acells_ptr one_ptr core_iptr grd_iptr acells_iptr one_iptr core_clo grd_clo acells_clo one_clo core_mp grd_mp acells_mp one_mp core_any grd_any acells_any one_any core_gv grd_gv fit_agg fit_lit fit_sl fit_esl fit_rsl fit_ptr fit_iptr fit_clo fit_mp retq_ret retq_normal set_nxt set_set plus_obj_set plus_set_set app_get0 app_get app_set0 app_set List.append_assoc List.length_append List.length_set Nat.lt_add_one Nat.add_lt_add_iff_right Nat.lt_add_right_iff_pos Nat.add_lt_add_iff_left List.mem_cons List.not_mem_nil or_false forall_eq forall_eq_or_imp lt_s0 lt_s1 lt_s2 lt_s3 lt_s4 lt_s5 lt_s6 lt_s7 lt_s8 pickv_t pickv_f or_nand or_nand2 imp_and_l SealT SealOs sealO_cells sl_lit sl_any sl_agg sl_tup sl_sl sl_rsl slO sl_esl sl_nil sl_eslesl sl_eslnil sl_rslrsl sl_eslrsl sl_nilrsl sl_ptr sl_iptr sl_ptri slP sl_clo sl_mp sl_gv sll_nil sll_cons slll_nil slll_cons shut_eq shutO Option.join_none Fn.func.injEq and_self sealL_self sealLL_self seal_self PureL PureLL Pure Nat.le_refl Nat.zero_le AV.lit.injEq Value.int.injEq Value.bool.injEq false_or or_true true_or Int.natCast_zero Int.ofNat_zero Int.cast_ofNat_Int Int.natCast_add Int.natCast_one Option.some.injEq piL_is sop_nil sop_cons sop_none sop_some sopO_some sop_new shut_pi shutL_nil shutL_cons exQ_exit exQ_ret exQ_normal Go.Sim.Tryz.ty_load1 Go.Sim.Tryz.ty_zero1 Go.Sim.Tryz.ty_load2 Go.Sim.Tryz.ty_zero2 Go.Sim.Tryz.ty_und2 Go.Sim.Tryz.ty_load3 Go.Sim.Tryz.ty_zero3 Go.Sim.Tryz.ty_und3 Go.Sim.Tryz.ty_load4 Go.Sim.Tryz.ty_zero4 Go.Sim.Tryz.ty_und4 Go.Sim.Tryz.ty_load5 Go.Sim.Tryz.ty_zero5 Go.Sim.Tryz.ty_und5 Go.Sim.Tryz.ty_load9 Go.Sim.Tryz.ty_zero9 Go.Sim.Tryz.ty_und9 Go.Sim.Tryz.ty_load22 Go.Sim.Tryz.ty_zero22 Go.Sim.Tryz.ty_el22 Go.Sim.Tryz.ty_zeroE22 Go.Sim.Tryz.ty_load24 Go.Sim.Tryz.ty_zero24 Go.Sim.Tryz.ty_fld24_0 Go.Sim.Tryz.ty_part24_0 Go.Sim.Tryz.ty_struct24 Go.Sim.Tryz.ty_load25 Go.Sim.Tryz.ty_zero25 Go.Sim.Tryz.ty_el25 Go.Sim.Tryz.ty_zeroE25 Go.Sim.Tryz.ty_load26 Go.Sim.Tryz.ty_zero26 Go.Sim.Tryz.ty_el26 Go.Sim.Tryz.ty_zeroE26 Go.Sim.Tryz.ty_load28 Go.Sim.Tryz.ty_zero28 Go.Sim.Tryz.ty_fld28_0 Go.Sim.Tryz.ty_part28_0 Go.Sim.Tryz.ty_fld28_1 Go.Sim.Tryz.ty_part28_1 Go.Sim.Tryz.ty_fld28_2 Go.Sim.Tryz.ty_part28_2 Go.Sim.Tryz.ty_fld28_3 Go.Sim.Tryz.ty_part28_3 Go.Sim.Tryz.ty_fld28_4 Go.Sim.Tryz.ty_part28_4 Go.Sim.Tryz.ty_fld28_5 Go.Sim.Tryz.ty_part28_5 Go.Sim.Tryz.ty_struct28 Go.Sim.Tryz.ty_load36 Go.Sim.Tryz.ty_zero36 Go.Sim.Tryz.ty_fld36_0 Go.Sim.Tryz.ty_part36_0 Go.Sim.Tryz.ty_fld36_1 Go.Sim.Tryz.ty_part36_1 Go.Sim.Tryz.ty_struct36 Go.Sim.Tryz.ty_load38 Go.Sim.Tryz.ty_zero38 Go.Sim.Tryz.ty_fld38_0 Go.Sim.Tryz.ty_part38_0 Go.Sim.Tryz.ty_fld38_1 Go.Sim.Tryz.ty_part38_1 Go.Sim.Tryz.ty_fld38_2 Go.Sim.Tryz.ty_part38_2 Go.Sim.Tryz.ty_fld38_3 Go.Sim.Tryz.ty_part38_3 Go.Sim.Tryz.ty_struct38 Go.Sim.Tryz.ty_load48 Go.Sim.Tryz.ty_zero48 Go.Sim.Tryz.ty_el48 Go.Sim.Tryz.ty_zeroE48 Go.Sim.Tryz.ty_load51 Go.Sim.Tryz.ty_zero51 Go.Sim.Tryz.ty_arr51 Go.Sim.Tryz.ty_part51_0 Go.Sim.Tryz.ty_part51_1 Go.Sim.Tryz.ty_struct51 Go.Sim.Tryz.ty_load59 Go.Sim.Tryz.ty_zero59 Go.Sim.Tryz.ty_fld59_0 Go.Sim.Tryz.ty_part59_0 Go.Sim.Tryz.ty_fld59_1 Go.Sim.Tryz.ty_part59_1 Go.Sim.Tryz.ty_struct59 Go.Sim.Tryz.ty_load60 Go.Sim.Tryz.ty_zero60 Go.Sim.Tryz.ty_el60 Go.Sim.Tryz.ty_zeroE60 Go.Sim.Tryz.ty_load62 Go.Sim.Tryz.ty_zero62 Go.Sim.Tryz.ty_fld62_0 Go.Sim.Tryz.ty_part62_0 Go.Sim.Tryz.ty_struct62 Go.Sim.Tryz.ty_load67 Go.Sim.Tryz.ty_zero67 Go.Sim.Tryz.ty_load68 Go.Sim.Tryz.ty_zero68 Go.Sim.Tryz.ty_load75 Go.Sim.Tryz.ty_zero75 Go.Sim.Tryz.ty_load76 Go.Sim.Tryz.ty_zero76 Go.Sim.Tryz.ty_und76 Go.Sim.Tryz.ty_load82 Go.Sim.Tryz.ty_zero82 Go.Sim.Tryz.ty_und82 Go.Sim.Tryz.ty_load85 Go.Sim.Tryz.ty_zero85 Go.Sim.Tryz.ty_und85 Go.Sim.Tryz.ty_load89 Go.Sim.Tryz.ty_zero89 Go.Sim.Tryz.ty_el89 Go.Sim.Tryz.ty_zeroE89 Go.Sim.Tryz.ty_load90 Go.Sim.Tryz.ty_zero90 Go.Sim.Tryz.ty_el90 Go.Sim.Tryz.ty_zeroE90 Go.Sim.Tryz.ty_load93 Go.Sim.Tryz.ty_zero93 Go.Sim.Tryz.ty_load98 Go.Sim.Tryz.ty_zero98 Go.Sim.Tryz.ty_fld98_0 Go.Sim.Tryz.ty_part98_0 Go.Sim.Tryz.ty_fld98_1 Go.Sim.Tryz.ty_part98_1 Go.Sim.Tryz.ty_fld98_2 Go.Sim.Tryz.ty_part98_2 Go.Sim.Tryz.ty_struct98 Go.Sim.Tryz.ty_load100 Go.Sim.Tryz.ty_zero100 Go.Sim.Tryz.ty_load106 Go.Sim.Tryz.ty_zero106 Go.Sim.Tryz.ty_load110 Go.Sim.Tryz.ty_zero110 Go.Sim.Tryz.ty_und110 Go.Sim.Tryz.ty_load118 Go.Sim.Tryz.ty_zero118 Go.Sim.Tryz.ty_und118 Go.Sim.Tryz.ty_load121 Go.Sim.Tryz.ty_zero121 Go.Sim.Tryz.ty_load128 Go.Sim.Tryz.ty_zero128 Go.Sim.Tryz.ty_und128 Go.Sim.Tryz.ty_load132 Go.Sim.Tryz.ty_zero132 encE_mk encE_take encE_len encV encE_one encEs_pure encE_pure

theorem MayQ1_ok (c : List Df) (t : Int) : Quiet Go.Proofs.Tryz.prog 51 [.int t, .iptr [.sl (c.map encD)]] (.bool (!tabOk c t)) := by
  refine quiet_of (rs := #[.tmp 3]) Go.Proofs.Tryz.func51 rfl rfl rfl mixed rfl rfl fun H hs => ?_
  simp -implicitDefEqProofs only [push_cast, Nat.reduceAdd, Nat.reduceSub, Nat.reduceMul, Nat.reduceLT, Nat.reduceLeDiff, Nat.reduceEqDiff, Nat.reduceBEq, reduceCtorEq, reduceIte, Int.reduceLE, Int.reduceLT, Int.reduceNeg, Int.reduceToNat]
  (try simp -implicitDefEqProofs only [push_cast, Nat.reduceAdd, Nat.reduceSub, Nat.reduceMul, Nat.reduceLT, Nat.reduceLeDiff, Nat.reduceEqDiff, Nat.reduceBEq, reduceCtorEq, reduceIte, Int.reduceLE, Int.reduceLT, Int.reduceNeg, Int.reduceToNat])
  unfold tabOk
  rw [Bool.not_and, ← decide_not, ← decide_not]
  congr 1 <;> rw [decide_eq_decide] <;> omega
theorem MayQ_ok (c : List Df) (hcl : c.length ≤ 1000000) (q : Qy) (hq : q.Ok) : Quiet Go.Proofs.Tryz.prog 16 [.agg [.sl (c.map encD)], .agg (encQ q)] (.bool (q.may c)) := by
  refine quiet_of (rs := #[.tmp 4]) Go.Proofs.Tryz.func16 rfl rfl rfl mixed rfl rfl fun H hs => ?_
  simp -implicitDefEqProofs only [push_cast, Nat.reduceAdd, Nat.reduceSub, Nat.reduceMul, Nat.reduceLT, Nat.reduceLeDiff, Nat.reduceEqDiff, Nat.reduceBEq, reduceCtorEq, reduceIte, Int.reduceLE, Int.reduceLT, Int.reduceNeg, Int.reduceToNat, encQ]
  refine fzk H 0 1 [.agg [.sl (c.map encD)]] (by rfl) (by omega) (by simp) ?_ ?_
  · (try simp -implicitDefEqProofs only [push_cast, Nat.reduceAdd, Nat.reduceSub, Nat.reduceMul, Nat.reduceLT, Nat.reduceLeDiff, Nat.reduceEqDiff, Nat.reduceBEq, reduceCtorEq, reduceIte, Int.reduceLE, Int.reduceLT, Int.reduceNeg, Int.reduceToNat, encDs_pure])
  refine callq (dataMay_ok c hcl) ?_
  simp -implicitDefEqProofs only [push_cast, Nat.reduceAdd, Nat.reduceSub, Nat.reduceMul, Nat.reduceLT, Nat.reduceLeDiff, Nat.reduceEqDiff, Nat.reduceBEq, reduceCtorEq, reduceIte, Int.reduceLE, Int.reduceLT, Int.reduceNeg, Int.reduceToNat, encQ]
  refine gcalla [.sl (q.occ.map encI), .clo (.func 51) [] [.iptr [.sl (c.map encD)]]] (.bool (q.occ.any fun t => !tabOk c t)) (fun h => by simpa using h) (fun h => containsFuncI_ok q.occ (by have := hq.2.2.1; omega) _ [.iptr [.sl (c.map encD)]] (by simp [PureL, Pure, encDs_pure]) (fun t => !tabOk c t) fun t _ => MayQ1_ok c t) ?_ ?_
  · (try simp -implicitDefEqProofs only [push_cast, Nat.reduceAdd, Nat.reduceSub, Nat.reduceMul, Nat.reduceLT, Nat.reduceLeDiff, Nat.reduceEqDiff, Nat.reduceBEq, reduceCtorEq, reduceIte, Int.reduceLE, Int.reduceLT, Int.reduceNeg, Int.reduceToNat, encDs_pure, encIs_pure])
  simp -implicitDefEqProofs only [push_cast, Nat.reduceAdd, Nat.reduceSub, Nat.reduceMul, Nat.reduceLT, Nat.reduceLeDiff, Nat.reduceEqDiff, Nat.reduceBEq, reduceCtorEq, reduceIte, Int.reduceLE, Int.reduceLT, Int.reduceNeg, Int.reduceToNat, encQ]
  refine ⟨fun h => ?_, fun h => ?_⟩
  · have : q.may c = false := by
      simp only [Bool.or_eq_true, Bool.not_eq_true', decide_eq_true_eq, List.any_eq_true] at h
      unfold Qy.may
      rcases h with (((h | h) | h) | ⟨x, hx, h⟩) | h
      · simp [h]
      · simp [decide_eq_false (show ¬ 1 ≤ q.occ.length by omega)]
      · simp [decide_eq_false (show ¬ q.occ.length ≤ 4 by omega)]
      · have : q.occ.all (tabOk c) = false := by
          rw [List.all_eq_false]; exact ⟨x, hx, by simp [h]⟩
        simp [this]
      · simp [decide_eq_false (show ¬ q.p.length ≤ 6 by omega)]
    exact this.symm
  have hh : catMay c = true ∧ 1 ≤ q.occ.length ∧ q.occ.length ≤ 4 ∧ q.occ.all (tabOk c) = true ∧ q.p.length ≤ 6 := by
    simp only [Bool.or_eq_false_iff, Bool.not_eq_false', decide_eq_false_iff_not] at h
    obtain ⟨⟨⟨⟨h1, h2⟩, h3⟩, h4⟩, h5⟩ := h
    refine ⟨h1, by omega, by omega, ?_, by omega⟩
    rw [List.all_eq_true]
    intro x hx
    have := List.any_eq_false.1 h4 x hx
    simpa using this
  obtain ⟨hc, ho1, ho4, hot, hp6⟩ := hh
  have hall := all_ok c q hc hq.2.2.1 55 [] [] trivial trivial (fun _ => true) fun o _ => May2_ok o
  have hcols : (colsIn c q fun _ => true).length ≤ 16 := Nat.le_trans (List.length_filter_le _ _) (by rw [upto_len]; omega)
  have hmay : q.may c = (q.p.all (exIn (colsIn c q fun _ => true)) && endMay q (colsIn c q fun _ => true)) := by
    simp only [Qy.may, hc, hot, decide_eq_true ho1, decide_eq_true ho4, decide_eq_true hp6, Bool.true_and]
  rw [hmay]
  generalize (colsIn c q fun _ => true) = cols at hall hcols ⊢
  simp only [encQ] at hall
  refine callq hall ?_
  simp -implicitDefEqProofs only [push_cast, Nat.reduceAdd, Nat.reduceSub, Nat.reduceMul, Nat.reduceLT, Nat.reduceLeDiff, Nat.reduceEqDiff, Nat.reduceBEq, reduceCtorEq, reduceIte, Int.reduceLE, Int.reduceLT, Int.reduceNeg, Int.reduceToNat, encQ]
  refine loop_at hs (σ := Nat) (fun i => i ≤ q.p.length ∧ (q.p.take i).all (exIn cols) = true) (fun i => q.p.length - i)
    (fun i => [(45, .int i), (44, .int q.p.length), (43, .sl (q.p.map encE)), (6, .sl (cols.map encI)), (3, .ptr (H.nxt + 1) 6 0 0)]) (fun i => [none, some (.cells 6 [encQ q] 0)]) [some 0, some 1] 0 ⟨by omega, by simp⟩ rfl ?_ ?_ ?_
  · (try simp -implicitDefEqProofs only [push_cast, Nat.reduceAdd, Nat.reduceSub, Nat.reduceMul, Nat.reduceLT, Nat.reduceLeDiff, Nat.reduceEqDiff, Nat.reduceBEq, reduceCtorEq, reduceIte, Int.reduceLE, Int.reduceLT, Int.reduceNeg, Int.reduceToNat, encEs_pure, encIs_pure])
  · (try simp -implicitDefEqProofs only [push_cast, Nat.reduceAdd, Nat.reduceSub, Nat.reduceMul, Nat.reduceLT, Nat.reduceLeDiff, Nat.reduceEqDiff, Nat.reduceBEq, reduceCtorEq, reduceIte, Int.reduceLE, Int.reduceLT, Int.reduceNeg, Int.reduceToNat, encEs_pure, encIs_pure, encQ])
  rintro i ⟨hi2, hai⟩
  by_cases hi : i < q.p.length
  · have hi' : ((i : Int) < (q.p.length : Int)) = True := by simp; omega
    have hi0 : (0 ≤ (i : Int)) = True := by simp
    have hok := hq.2.1 _ (List.getElem_mem hi)
    simp -implicitDefEqProofs only [push_cast, Nat.reduceAdd, Nat.reduceSub, Nat.reduceMul, Nat.reduceLT, Nat.reduceLeDiff, Nat.reduceEqDiff, Nat.reduceBEq, reduceCtorEq, reduceIte, Int.reduceLE, Int.reduceLT, Int.reduceNeg, Int.reduceToNat, hi', hi0, encEs_get q.p i hi, encQ]
    refine callq (Cols_ok _ hok.1 hok.2) ?_
    simp -implicitDefEqProofs only [push_cast, Nat.reduceAdd, Nat.reduceSub, Nat.reduceMul, Nat.reduceLT, Nat.reduceLeDiff, Nat.reduceEqDiff, Nat.reduceBEq, reduceCtorEq, reduceIte, Int.reduceLE, Int.reduceLT, Int.reduceNeg, Int.reduceToNat, encQ]
    have hcl2 : (q.p[i].cols).length ≤ 1000000 := Nat.le_trans (cols_len _) hok.2
    refine gcallq' (.bool (within q.p[i].cols cols)) (fun h => by simpa using h) (fun _ => within_ok _ _ hcl2 (by omega)) ?_
    simp -implicitDefEqProofs only [push_cast, Nat.reduceAdd, Nat.reduceSub, Nat.reduceMul, Nat.reduceLT, Nat.reduceLeDiff, Nat.reduceEqDiff, Nat.reduceBEq, reduceCtorEq, reduceIte, Int.reduceLE, Int.reduceLT, Int.reduceNeg, Int.reduceToNat, encQ]
    have hex : exIn cols q.p[i] = !(decide ((q.p[i].cols.length : Int) = 0) || !within q.p[i].cols cols) := by
      unfold exIn
      rw [Bool.not_or, Bool.not_not]
      congr 2
      rw [decide_eq_decide]; omega
    refine ⟨fun h => ?_, fun h => ?_⟩
    · have : q.p.all (exIn cols) = false := by
        rw [List.all_eq_false]
        exact ⟨_, List.getElem_mem hi, by rw [hex, h]; simp⟩
      rw [this]
      rfl
    · rw [wrap64 (n := (i : Int) + 1) (by omega) (by omega)]
      refine next_at [some 0, some 1] (i + 1) ⟨by omega, ?_⟩ (by omega) rfl ?_ ?_
      · rw [List.take_succ_eq_append_getElem hi, List.all_append, hai, List.all_cons, hex, h]
        rfl
      · (try simp -implicitDefEqProofs only [push_cast, Nat.reduceAdd, Nat.reduceSub, Nat.reduceMul, Nat.reduceLT, Nat.reduceLeDiff, Nat.reduceEqDiff, Nat.reduceBEq, reduceCtorEq, reduceIte, Int.reduceLE, Int.reduceLT, Int.reduceNeg, Int.reduceToNat, encEs_pure, encIs_pure])
      · (try simp -implicitDefEqProofs only [push_cast, Nat.reduceAdd, Nat.reduceSub, Nat.reduceMul, Nat.reduceLT, Nat.reduceLeDiff, Nat.reduceEqDiff, Nat.reduceBEq, reduceCtorEq, reduceIte, Int.reduceLE, Int.reduceLT, Int.reduceNeg, Int.reduceToNat, encEs_pure, encIs_pure, encQ])
  · have hi' : ((i : Int) < (q.p.length : Int)) = False := by simp; omega
    obtain rfl : i = q.p.length := by omega
    rw [List.take_length] at hai
    rw [hai, Bool.true_and]
    by_cases hby : q.by_ = -1
    · simp -implicitDefEqProofs only [push_cast, Nat.reduceAdd, Nat.reduceSub, Nat.reduceMul, Nat.reduceLT, Nat.reduceLeDiff, Nat.reduceEqDiff, Nat.reduceBEq, reduceCtorEq, reduceIte, Int.reduceLE, Int.reduceLT, Int.reduceNeg, Int.reduceToNat, hi', encQ, hby]
      refine gcallq' (.bool (decide ((uniq q.out).length = q.out.length))) (fun h => by simpa using h) (fun _ => once_ok _ hq.2.2.2.2) ?_
      simp -implicitDefEqProofs only [push_cast, Nat.reduceAdd, Nat.reduceSub, Nat.reduceMul, Nat.reduceLT, Nat.reduceLeDiff, Nat.reduceEqDiff, Nat.reduceBEq, reduceCtorEq, reduceIte, Int.reduceLE, Int.reduceLT, Int.reduceNeg, Int.reduceToNat, encQ]
      refine gcallq' (.bool (within q.out cols)) (fun h => by simpa using h) (fun _ => within_ok _ _ hq.2.2.2.2 (by omega)) ?_
      simp -implicitDefEqProofs only [push_cast, Nat.reduceAdd, Nat.reduceSub, Nat.reduceMul, Nat.reduceLT, Nat.reduceLeDiff, Nat.reduceEqDiff, Nat.reduceBEq, reduceCtorEq, reduceIte, Int.reduceLE, Int.reduceLT, Int.reduceNeg, Int.reduceToNat, encQ]
      refine gcallq' (.bool (q.out.contains q.ord)) (fun h => by simpa using h) (fun _ => containsI_ok _ hq.2.2.2.2 _) ?_
      simp -implicitDefEqProofs only [push_cast, Nat.reduceAdd, Nat.reduceSub, Nat.reduceMul, Nat.reduceLT, Nat.reduceLeDiff, Nat.reduceEqDiff, Nat.reduceBEq, reduceCtorEq, reduceIte, Int.reduceLE, Int.reduceLT, Int.reduceNeg, Int.reduceToNat, encQ]
      refine ⟨fun h1 h2 => by rw [h1]; simpa using h2, ?_⟩
      have a1 : decide ((1 : Int) ≤ (q.out.length : Int)) = decide (1 ≤ q.out.length) := by rw [decide_eq_decide]; omega
      have a2 : decide ((q.out.length : Int) ≤ 8) = decide (q.out.length ≤ 8) := by rw [decide_eq_decide]; omega
      have a3 : decide ((q.sums.length : Int) = 0) = decide (q.sums.length = 0) := by rw [decide_eq_decide]; omega
      rw [a1, a2, a3, once_iff, endMay, if_pos hby]
    · have hby' : decide (q.by_ = -1) = false := by simpa using hby
      simp -implicitDefEqProofs only [push_cast, Nat.reduceAdd, Nat.reduceSub, Nat.reduceMul, Nat.reduceLT, Nat.reduceLeDiff, Nat.reduceEqDiff, Nat.reduceBEq, reduceCtorEq, reduceIte, Int.reduceLE, Int.reduceLT, Int.reduceNeg, Int.reduceToNat, hi', encQ, hby']
      refine fzk H 2 1 [.sl ([q.by_].map encI), .sl (cols.map encI)] (by rfl) (by omega) (by simp) ?_ ?_
      · (try simp -implicitDefEqProofs only [push_cast, Nat.reduceAdd, Nat.reduceSub, Nat.reduceMul, Nat.reduceLT, Nat.reduceLeDiff, Nat.reduceEqDiff, Nat.reduceBEq, reduceCtorEq, reduceIte, Int.reduceLE, Int.reduceLT, Int.reduceNeg, Int.reduceToNat, encIs_pure, encI])
      refine callq (within_ok [q.by_] cols (by simp) (by omega)) ?_
      simp -implicitDefEqProofs only [push_cast, Nat.reduceAdd, Nat.reduceSub, Nat.reduceMul, Nat.reduceLT, Nat.reduceLeDiff, Nat.reduceEqDiff, Nat.reduceBEq, reduceCtorEq, reduceIte, Int.reduceLE, Int.reduceLT, Int.reduceNeg, Int.reduceToNat, encQ]
      refine gcallq' (.bool (within q.sums cols)) (fun h => by simpa using h) (fun _ => within_ok _ _ hq.2.2.2.1 (by omega)) ?_
      simp -implicitDefEqProofs only [push_cast, Nat.reduceAdd, Nat.reduceSub, Nat.reduceMul, Nat.reduceLT, Nat.reduceLeDiff, Nat.reduceEqDiff, Nat.reduceBEq, reduceCtorEq, reduceIte, Int.reduceLE, Int.reduceLT, Int.reduceNeg, Int.reduceToNat, encQ]
      refine ⟨fun h1 h2 => by rw [h1]; simpa using h2, ?_⟩
      have a2 : decide ((q.sums.length : Int) ≤ 4) = decide (q.sums.length ≤ 4) := by rw [decide_eq_decide]; omega
      have a3 : decide ((q.out.length : Int) = 0) = decide (q.out.length = 0) := by rw [decide_eq_decide]; omega
      rw [a2, a3, endMay, if_neg hby]
/-- A set's columns. -/
def Qy.cols (q : Qy) (c : List Df) (s : Int) : List Int := if q.may c then colsIn c q (bitI s) else []
end Go.Sim.Tryz
set_option linter.unusedSimpArgs false
set_option linter.unusedVariables false
set_option maxRecDepth 100000
namespace Go.Sim.Tryz
open Go Go.Sim
attribute [local push_cast] aops_cons aops_nil aopG_none aopG_some aopP_eq aopE_eq aopC_eq aopE?_eq aopC?_eq aopB_eq aopB?_eq abr anilq gopP_eq gopL_eq ahead_cons ahead_nil ahdG_none ahdG_some ahdP_eq ahdN_eq ahdC_eq ahdN?_eq ahdS_eq ahdS?_eq astoreN ahdC?_eq ghdP_eq ghdC_eq ghdC?_eq ghdZ_f ghdZ_t ahdI_eq ahdI?_eq ghdN?_eq aim_nil aim_cons isIn_nil isIn_none isIn_cons aimm aheP_eq aheA_eq aheC_eq aheC?_eq aheI?_eq aheA?_eq gheP_eq gheC_eq gheC?_eq gheZ_eq aheG_none aheG_some aheff_cons aheff_nil aapp gro_rsl gro_lit gro_esl opt_some opt_none no_eq acondT_true acondT_false acondT_lit aw_skip aw_region aw_regionD aw_seq aw_cond aw_block aw_loop aw_exit aw_label aw_ret thn_normal thn_exit thn_ret inb_normal inb_exit inb_ret qret_ret qret_normal gcond apure aeff anew acallee ares aresT aresL aresC ares1 qfin_eq ev ofV evL gokL tget tput_some tput_none initT abin aint aun aload afaddr aiaddr afield aindex aextract apick pickv_lit Bool.or_false Bool.false_or Bool.or_true Bool.true_or imp_self aslice chunk roomB abound aconv abuild afill splice alen aminmax abuiltin anil apart Value.oneCell' astore aappend srcEs abuildSlice asets isEq plus_obj plus_nxt plus_add plus_set plus_del IntKind.bits Option.map_some Option.map_none Option.bind_some Option.bind_none Option.join_some Option.getD_some Option.getD_none Option.toList Option.isSome_some List.getElem?_toArray List.getElem?_cons_zero List.getElem?_cons_succ List.getElem?_nil List.length_cons List.length_nil List.length_map List.head?_cons List.cons_append List.nil_append List.append_nil List.map_cons List.map_nil List.getD_cons_zero List.getD_cons_succ List.replicate_succ List.replicate_zero List.set_cons_zero List.set_cons_succ List.take_succ_cons List.take_zero List.drop_succ_cons List.drop_zero List.all_cons List.all_nil Nat.zero_add if_true if_false true_and and_true false_and and_false true_implies implies_true forall_const Bool.and_true Bool.true_and Bool.false_and Bool.and_false Bool.true_beq Bool.false_beq Bool.not_not beq_tt beq_ff Int.toNat_natCast decide_true decide_false Bool.not_true Bool.not_false Bool.true_eq_false Bool.false_eq_true false_implies exists_prop eq_self bne_self_eq_false beq_self_eq_true decide_eq_true_eq decide_eq_false_iff_not Bool.not_eq_true' Bool.not_eq_false' AV.int AV.bool AV.nilS ne_eq not_false_eq_true not_true_eq_false exists_eq_left exists_eq_left' Nat.lt_irrefl core_lit grd_lit acells_lit one_lit core_agg grd_agg acells_agg one_agg core_tup grd_tup acells_tup one_tup core_sl grd_sl acells_sl one_sl core_esl grd_esl acells_esl one_esl core_rsl grd_rsl acells_rsl one_rsl core_ptr grd_ptr acells_ptr one_ptr core_iptr grd_iptr acells_iptr one_iptr core_clo grd_clo acells_clo one_clo core_mp grd_mp acells_mp one_mp core_any grd_any acells_any one_any core_gv grd_gv fit_agg fit_lit fit_sl fit_esl fit_rsl fit_ptr fit_iptr fit_clo fit_mp retq_ret retq_normal set_nxt set_set plus_obj_set plus_set_set app_get0 app_get app_set0 app_set List.append_assoc List.length_append List.length_set Nat.lt_add_one Nat.add_lt_add_iff_right Nat.lt_add_right_iff_pos Nat.add_lt_add_iff_left List.mem_cons List.not_mem_nil or_false forall_eq forall_eq_or_imp lt_s0 lt_s1 lt_s2 lt_s3 lt_s4 lt_s5 lt_s6 lt_s7 lt_s8 pickv_t pickv_f or_nand or_nand2 imp_and_l SealT SealOs sealO_cells sl_lit sl_any sl_agg sl_tup sl_sl sl_rsl slO sl_esl sl_nil sl_eslesl sl_eslnil sl_rslrsl sl_eslrsl sl_nilrsl sl_ptr sl_iptr sl_ptri slP sl_clo sl_mp sl_gv sll_nil sll_cons slll_nil slll_cons shut_eq shutO Option.join_none Fn.func.injEq and_self sealL_self sealLL_self seal_self PureL PureLL Pure Nat.le_refl Nat.zero_le AV.lit.injEq Value.int.injEq Value.bool.injEq false_or or_true true_or Int.natCast_zero Int.ofNat_zero Int.cast_ofNat_Int Int.natCast_add Int.natCast_one Option.some.injEq piL_is sop_nil sop_cons sop_none sop_some sopO_some sop_new shut_pi shutL_nil shutL_cons exQ_exit exQ_ret exQ_normal Go.Sim.Tryz.ty_load1 Go.Sim.Tryz.ty_zero1 Go.Sim.Tryz.ty_load2 Go.Sim.Tryz.ty_zero2 Go.Sim.Tryz.ty_und2 Go.Sim.Tryz.ty_load3 Go.Sim.Tryz.ty_zero3 Go.Sim.Tryz.ty_und3 Go.Sim.Tryz.ty_load4 Go.Sim.Tryz.ty_zero4 Go.Sim.Tryz.ty_und4 Go.Sim.Tryz.ty_load5 Go.Sim.Tryz.ty_zero5 Go.Sim.Tryz.ty_und5 Go.Sim.Tryz.ty_load9 Go.Sim.Tryz.ty_zero9 Go.Sim.Tryz.ty_und9 Go.Sim.Tryz.ty_load22 Go.Sim.Tryz.ty_zero22 Go.Sim.Tryz.ty_el22 Go.Sim.Tryz.ty_zeroE22 Go.Sim.Tryz.ty_load24 Go.Sim.Tryz.ty_zero24 Go.Sim.Tryz.ty_fld24_0 Go.Sim.Tryz.ty_part24_0 Go.Sim.Tryz.ty_struct24 Go.Sim.Tryz.ty_load25 Go.Sim.Tryz.ty_zero25 Go.Sim.Tryz.ty_el25 Go.Sim.Tryz.ty_zeroE25 Go.Sim.Tryz.ty_load26 Go.Sim.Tryz.ty_zero26 Go.Sim.Tryz.ty_el26 Go.Sim.Tryz.ty_zeroE26 Go.Sim.Tryz.ty_load28 Go.Sim.Tryz.ty_zero28 Go.Sim.Tryz.ty_fld28_0 Go.Sim.Tryz.ty_part28_0 Go.Sim.Tryz.ty_fld28_1 Go.Sim.Tryz.ty_part28_1 Go.Sim.Tryz.ty_fld28_2 Go.Sim.Tryz.ty_part28_2 Go.Sim.Tryz.ty_fld28_3 Go.Sim.Tryz.ty_part28_3 Go.Sim.Tryz.ty_fld28_4 Go.Sim.Tryz.ty_part28_4 Go.Sim.Tryz.ty_fld28_5 Go.Sim.Tryz.ty_part28_5 Go.Sim.Tryz.ty_struct28 Go.Sim.Tryz.ty_load36 Go.Sim.Tryz.ty_zero36 Go.Sim.Tryz.ty_fld36_0 Go.Sim.Tryz.ty_part36_0 Go.Sim.Tryz.ty_fld36_1 Go.Sim.Tryz.ty_part36_1 Go.Sim.Tryz.ty_struct36 Go.Sim.Tryz.ty_load38 Go.Sim.Tryz.ty_zero38 Go.Sim.Tryz.ty_fld38_0 Go.Sim.Tryz.ty_part38_0 Go.Sim.Tryz.ty_fld38_1 Go.Sim.Tryz.ty_part38_1 Go.Sim.Tryz.ty_fld38_2 Go.Sim.Tryz.ty_part38_2 Go.Sim.Tryz.ty_fld38_3 Go.Sim.Tryz.ty_part38_3 Go.Sim.Tryz.ty_struct38 Go.Sim.Tryz.ty_load48 Go.Sim.Tryz.ty_zero48 Go.Sim.Tryz.ty_el48 Go.Sim.Tryz.ty_zeroE48 Go.Sim.Tryz.ty_load51 Go.Sim.Tryz.ty_zero51 Go.Sim.Tryz.ty_arr51 Go.Sim.Tryz.ty_part51_0 Go.Sim.Tryz.ty_part51_1 Go.Sim.Tryz.ty_struct51 Go.Sim.Tryz.ty_load59 Go.Sim.Tryz.ty_zero59 Go.Sim.Tryz.ty_fld59_0 Go.Sim.Tryz.ty_part59_0 Go.Sim.Tryz.ty_fld59_1 Go.Sim.Tryz.ty_part59_1 Go.Sim.Tryz.ty_struct59 Go.Sim.Tryz.ty_load60 Go.Sim.Tryz.ty_zero60 Go.Sim.Tryz.ty_el60 Go.Sim.Tryz.ty_zeroE60 Go.Sim.Tryz.ty_load62 Go.Sim.Tryz.ty_zero62 Go.Sim.Tryz.ty_fld62_0 Go.Sim.Tryz.ty_part62_0 Go.Sim.Tryz.ty_struct62 Go.Sim.Tryz.ty_load67 Go.Sim.Tryz.ty_zero67 Go.Sim.Tryz.ty_load68 Go.Sim.Tryz.ty_zero68 Go.Sim.Tryz.ty_load75 Go.Sim.Tryz.ty_zero75 Go.Sim.Tryz.ty_load76 Go.Sim.Tryz.ty_zero76 Go.Sim.Tryz.ty_und76 Go.Sim.Tryz.ty_load82 Go.Sim.Tryz.ty_zero82 Go.Sim.Tryz.ty_und82 Go.Sim.Tryz.ty_load85 Go.Sim.Tryz.ty_zero85 Go.Sim.Tryz.ty_und85 Go.Sim.Tryz.ty_load89 Go.Sim.Tryz.ty_zero89 Go.Sim.Tryz.ty_el89 Go.Sim.Tryz.ty_zeroE89 Go.Sim.Tryz.ty_load90 Go.Sim.Tryz.ty_zero90 Go.Sim.Tryz.ty_el90 Go.Sim.Tryz.ty_zeroE90 Go.Sim.Tryz.ty_load93 Go.Sim.Tryz.ty_zero93 Go.Sim.Tryz.ty_load98 Go.Sim.Tryz.ty_zero98 Go.Sim.Tryz.ty_fld98_0 Go.Sim.Tryz.ty_part98_0 Go.Sim.Tryz.ty_fld98_1 Go.Sim.Tryz.ty_part98_1 Go.Sim.Tryz.ty_fld98_2 Go.Sim.Tryz.ty_part98_2 Go.Sim.Tryz.ty_struct98 Go.Sim.Tryz.ty_load100 Go.Sim.Tryz.ty_zero100 Go.Sim.Tryz.ty_load106 Go.Sim.Tryz.ty_zero106 Go.Sim.Tryz.ty_load110 Go.Sim.Tryz.ty_zero110 Go.Sim.Tryz.ty_und110 Go.Sim.Tryz.ty_load118 Go.Sim.Tryz.ty_zero118 Go.Sim.Tryz.ty_und118 Go.Sim.Tryz.ty_load121 Go.Sim.Tryz.ty_zero121 Go.Sim.Tryz.ty_load128 Go.Sim.Tryz.ty_zero128 Go.Sim.Tryz.ty_und128 Go.Sim.Tryz.ty_load132 Go.Sim.Tryz.ty_zero132 encE_mk encE_take encE_len encV encE_one encEs_pure encE_pure
/-- Each number of it is one of 64 bits. -/
inductive Ex.In : Ex → Prop
  | mk {op col k n : Int} {l : List Ex} (h1 : In64 n) (h2 : ∀ x ∈ l, x.In) : Ex.In (.mk op col k n l)
/-! ### What the document tells is what the program tells -/
theorem MayR_ok2 (e : Ex) (hok : e.Ok) : Quiet Go.Proofs.Tryz.prog 93 [.agg (encE e)] (.bool e.may) := by
  have := MayR_ok e hok
  rwa [mayR_eq] at this
theorem ColsR_ok2 (e : Ex) (hok : e.Ok) : Quiet Go.Proofs.Tryz.prog 72 [.agg (encE e)] (.sl (e.cols.map encI)) := by
  have := ColsR_ok e hok
  rwa [colsR_eq] at this
theorem PairR_ok (e : Ex) (hok : e.Ok) : Quiet Go.Proofs.Tryz.prog 77 [.agg (encE e)] (.tup [.int e.pair.1, .int e.pair.2.1, .bool e.pair.2.2]) := by
  obtain ⟨op, col, k, n, l⟩ := e
  refine quiet_of (rs := #[.tmp 2, .tmp 3, .tmp 4]) Go.Proofs.Tryz.func77 rfl rfl rfl mixed rfl rfl fun H hs => ?_
  have hm := MayR_ok2 _ hok
  simp only [encE_mk] at hm
  simp -implicitDefEqProofs only [push_cast, Nat.reduceAdd, Nat.reduceSub, Nat.reduceMul, Nat.reduceLT, Nat.reduceLeDiff, Nat.reduceEqDiff, Nat.reduceBEq, reduceCtorEq, reduceIte, Int.reduceLE, Int.reduceLT, Int.reduceNeg, Int.reduceToNat]
  refine callq hm ?_
  by_cases h6 : (Ex.mk op col k n l).may = true ∧ op = 6
  · obtain ⟨hmay, hop⟩ := h6
    have h2 : l.length = 2 := by
      obtain ⟨hp, _⟩ := may_fine hmay
      obtain ⟨_, _, ⟨h3, h4⟩, _⟩ := (part_iff _ _ _ _ _).1 hp
      rw [hop] at h3 h4
      simp [wayLo, wayHi] at h3 h4
      omega
    obtain ⟨a, b, rfl⟩ : ∃ a b, l = [a, b] := by
      match l, h2 with
      | [a, b], _ => exact ⟨a, b, rfl⟩
    obtain ⟨ao, ac, ak, an, al⟩ := a
    obtain ⟨bo, bc, bk, bn, bl⟩ := b
    rw [hmay]
    simp -implicitDefEqProofs only [push_cast, Nat.reduceAdd, Nat.reduceSub, Nat.reduceMul, Nat.reduceLT, Nat.reduceLeDiff, Nat.reduceEqDiff, Nat.reduceBEq, reduceCtorEq, reduceIte, Int.reduceLE, Int.reduceLT, Int.reduceNeg, Int.reduceToNat]
    refine areg_at 35 (by kernel_rfl) (by kernel_rfl) ?_
    simp -implicitDefEqProofs only [push_cast, Nat.reduceAdd, Nat.reduceSub, Nat.reduceMul, Nat.reduceLT, Nat.reduceLeDiff, Nat.reduceEqDiff, Nat.reduceBEq, reduceCtorEq, reduceIte, Int.reduceLE, Int.reduceLT, Int.reduceNeg, Int.reduceToNat, hop, List.map_cons, List.map_nil]
    refine ⟨by omega, fun _ => by omega, fun _ => by omega, fun _ => by omega, fun h1 => ?_, fun h1 => ?_⟩
    · have hz : (Ex.mk op col k n [Ex.mk ao ac ak an al, Ex.mk bo bc bk bn bl]).pair = (ac, bc, true) := by
        simp only [Ex.pair, hmay, hop, Ex.op, Ex.col]
        rw [if_pos (by grind)]
      rw [hop] at hz
      rw [hz]
      refine areg_at 11 (by kernel_rfl) (by kernel_rfl) ?_
      simp -implicitDefEqProofs only [push_cast, Nat.reduceAdd, Nat.reduceSub, Nat.reduceMul, Nat.reduceLT, Nat.reduceLeDiff, Nat.reduceEqDiff, Nat.reduceBEq, reduceCtorEq, reduceIte, Int.reduceLE, Int.reduceLT, Int.reduceNeg, Int.reduceToNat, List.map_cons, List.map_nil]
      omega
    · have hz : (Ex.mk op col k n [Ex.mk ao ac ak an al, Ex.mk bo bc bk bn bl]).pair = (0, 0, false) := by
        simp only [Ex.pair, hmay, hop, Ex.op, Ex.col]
        rw [if_neg (by grind)]
      rw [hop] at hz
      rw [hz]
      (try simp -implicitDefEqProofs only [push_cast, Nat.reduceAdd, Nat.reduceSub, Nat.reduceMul, Nat.reduceLT, Nat.reduceLeDiff, Nat.reduceEqDiff, Nat.reduceBEq, reduceCtorEq, reduceIte, Int.reduceLE, Int.reduceLT, Int.reduceNeg, Int.reduceToNat])
  · have hz : (Ex.mk op col k n l).pair = (0, 0, false) := by
      unfold Ex.pair
      split
      · rename_i a b heq
        injection heq with e1 e2 e3 e4 e5
        subst e1 e2 e3 e4 e5
        rw [if_neg (by grind)]
      · rfl
    rw [hz]
    generalize (Ex.mk op col k n l).may = mv at h6
    have fin : ∀ l' : List Ex, l'.map encE = l.map encE → True := fun _ _ => trivial
    rcases l with _ | ⟨⟨ao, ac, ak, an, al⟩, _ | ⟨⟨bo, bc, bk, bn, bl⟩, l⟩⟩
    all_goals cases mv
    all_goals first
      | (have hop : (op = 6) = False := by simpa using h6)
      | skip
    all_goals (simp -implicitDefEqProofs only [push_cast, Nat.reduceAdd, Nat.reduceSub, Nat.reduceMul, Nat.reduceLT, Nat.reduceLeDiff, Nat.reduceEqDiff, Nat.reduceBEq, reduceCtorEq, reduceIte, Int.reduceLE, Int.reduceLT, Int.reduceNeg, Int.reduceToNat])
    all_goals (refine areg_at 35 (by kernel_rfl) (by kernel_rfl) ?_)
    all_goals (first | (simp -implicitDefEqProofs only [push_cast, Nat.reduceAdd, Nat.reduceSub, Nat.reduceMul, Nat.reduceLT, Nat.reduceLeDiff, Nat.reduceEqDiff, Nat.reduceBEq, reduceCtorEq, reduceIte, Int.reduceLE, Int.reduceLT, Int.reduceNeg, Int.reduceToNat, hop, List.map_cons, List.map_nil, List.getD_nil, List.drop_nil]) | (simp -implicitDefEqProofs only [push_cast, Nat.reduceAdd, Nat.reduceSub, Nat.reduceMul, Nat.reduceLT, Nat.reduceLeDiff, Nat.reduceEqDiff, Nat.reduceBEq, reduceCtorEq, reduceIte, Int.reduceLE, Int.reduceLT, Int.reduceNeg, Int.reduceToNat, List.map_cons, List.map_nil, List.getD_nil, List.drop_nil]))
    all_goals ((try simp -implicitDefEqProofs only [push_cast, Nat.reduceAdd, Nat.reduceSub, Nat.reduceMul, Nat.reduceLT, Nat.reduceLeDiff, Nat.reduceEqDiff, Nat.reduceBEq, reduceCtorEq, reduceIte, Int.reduceLE, Int.reduceLT, Int.reduceNeg, Int.reduceToNat]))

end Go.Sim.Tryz
