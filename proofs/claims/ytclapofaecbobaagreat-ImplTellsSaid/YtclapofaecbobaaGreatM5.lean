/- What the row rests on, part 5. Conditions: none. -/
import Derived.Test.YtclapofaecbobaaGreatM4
set_option linter.unusedSimpArgs false
set_option linter.unusedVariables false
set_option maxRecDepth 100000
namespace Go.Sim.Tryz
open Go Go.Sim
section
def capN:Int:=1099511627776
def cap (n:Int):Int:=min n capN
def prodI:List Int → Int
 | []=>1
 | x :: l=>x * prodI l
def posL (l:List Int):Bool:=l.all fun x=>decide (0 < x)
def timesG (n:Int):List Int → Int
 | []=>n
 | x :: l=>if x ≤ 0 then 0 else timesG (cap (n * x)) l
def times (l:List Int):Int:=timesG 1 l
theorem mul_ge {a b:Int} (ha:0 ≤ a) (hb:1 ≤ b):a ≤ a * b:=by
 have:=Int.mul_le_mul_of_nonneg_left hb ha
 omega
theorem prodI_pos {l:List Int} (h:posL l = true):1 ≤ prodI l:=by
 induction l with
 | nil=>simp [prodI]
 | cons x l ih =>
  simp only [posL,List.all_cons,Bool.and_eq_true,decide_eq_true_eq] at h
  have h1:=ih h.2
  have:=mul_ge (a:=x) (b:=prodI l) (by omega) h1
  rw [prodI]
  omega
theorem cap_mul {a b:Int} (ha:0 ≤ a) (hb:1 ≤ b):cap (cap a * b) = cap (a * b):=by
 unfold cap
 by_cases h:a ≤ capN
 ·rw [Int.min_eq_left h]
 ·have h1:=mul_ge (a:=capN) (b:=b) (by decide) hb
  have h2:=mul_ge ha hb
  rw [Int.min_eq_right (a:=a) (by omega),Int.min_eq_right h1,Int.min_eq_right (by omega)]
theorem cap_le (n:Int):cap n ≤ capN:=Int.min_le_right _ _
theorem cap_pos {n:Int} (h:1 ≤ n):1 ≤ cap n:=by
 unfold cap capN
 omega
theorem timesG_eq:∀ (l:List Int) (n:Int),0 ≤ n → n ≤ capN → timesG n l = if posL l then cap (n * prodI l) else 0
 | [],n,h0,h1=>by
  rw [timesG,prodI,Int.mul_one,cap,Int.min_eq_left h1]
  rfl
 | x :: l,n,h0,h1=>by
  rw [timesG]
  by_cases hx:x ≤ 0
  ·rw [if_pos hx,if_neg]
   simp only [posL,List.all_cons,Bool.and_eq_true,decide_eq_true_eq]
   omega
  ·rw [if_neg hx]
   have hn:0 ≤ n * x:=Int.mul_nonneg h0 (by omega)
   have hc:0 ≤ cap (n * x):=by unfold cap capN; omega
   rw [timesG_eq l _ hc (cap_le _)]
   have hp:posL (x :: l) = posL l:=by
    simp only [posL,List.all_cons,decide_eq_true (show 0 < x by omega),Bool.true_and]
   rw [hp]
   by_cases hl:posL l = true
   ·rw [if_pos hl,if_pos hl,cap_mul hn (prodI_pos hl),prodI,Int.mul_assoc]
   ·rw [if_neg hl,if_neg hl]
theorem times_eq (l:List Int):times l = if posL l then cap (prodI l) else 0:=by
 rw [times,timesG_eq l 1 (by omega) (by decide),Int.one_mul]
theorem times_range (l:List Int):0 ≤ times l ∧ times l ≤ capN:=by
 rw [times_eq]
 split
 ·rename_i h
  exact ⟨Int.le_trans (by omega) (cap_pos (prodI_pos h)),cap_le _⟩
 ·decide
theorem prodI_append (l k:List Int):prodI (l ++ k) = prodI l * prodI k:=by
 induction l with
 | nil=>rw [List.nil_append,prodI,Int.one_mul]
 | cons x l ih=>rw [List.cons_append,prodI,prodI,ih,Int.mul_assoc]
theorem posL_append (l k:List Int):posL (l ++ k) = (posL l && posL k):=List.all_append
theorem times_zero {l:List Int} (h:¬ posL l = true):times l = 0:=by rw [times_eq,if_neg h]
def timesD (n:Int) (over:Bool):List Int → Int
 | []=>if over then capN else n
 | x :: l=>if x ≤ 0 then 0 else
   let o1:=over || decide (capN / x < n)
   let n1:=(if capN / x < n then 1 else n) * x
   timesD (if capN < n1 then 1 else n1) (o1 || decide (capN < n1)) l
theorem timesD_eq:∀ (l:List Int) (n:Int) (over:Bool),1 ≤ n → n ≤ capN → timesD n over l = if posL l then (if over then capN else cap (n * prodI l)) else 0
 | [],n,over,h0,h1=>by
  rw [timesD,prodI,Int.mul_one,cap,Int.min_eq_left h1]
  rfl
 | x :: l,n,over,h0,h1=>by
  rw [timesD]
  by_cases hx:x ≤ 0
  ·rw [if_pos hx,if_neg]
   simp only [posL,List.all_cons,Bool.and_eq_true,decide_eq_true_eq]
   omega
  ·rw [if_neg hx]
   have hx1:0 < x:=by omega
   have hp:posL (x :: l) = posL l:=by
    simp only [posL,List.all_cons,decide_eq_true hx1,Bool.true_and]
   have hdiv:capN / x < n ↔ capN < n * x:=Int.ediv_lt_iff_lt_mul hx1
   dsimp only
   have hn1:1 ≤ (if capN / x < n then 1 else n) * x:=by
    split
    ·omega
    ·have:=mul_ge (a:=n) (b:=x) (by omega) hx1
     omega
   have hle:(if capN < (if capN / x < n then 1 else n) * x then 1 else (if capN / x < n then 1 else n) * x) ≤ capN:=by
    generalize (if capN / x < n then 1 else n) * x = m at hn1 ⊢
    split
    ·decide
    ·omega
   have hge:1 ≤ (if capN < (if capN / x < n then 1 else n) * x then 1 else (if capN / x < n then 1 else n) * x):=by
    generalize (if capN / x < n then 1 else n) * x = m at hn1 ⊢
    split <;> omega
   rw [timesD_eq l _ _ hge hle,hp]
   by_cases hl:posL l = true
   ·rw [if_pos hl,if_pos hl]
    by_cases hd:capN / x < n
    ·have hbig:=hdiv.1 hd
     have h2:=mul_ge (a:=n * x) (b:=prodI l) (by omega) (prodI_pos hl)
     have h3:cap (n * prodI (x :: l)) = capN:=by
      rw [prodI,← Int.mul_assoc,cap,Int.min_eq_right (by omega)]
     rw [h3,decide_eq_true hd,Bool.or_true,Bool.true_or,if_pos rfl]
     split <;> rfl
    ·have hsm:n * x ≤ capN:=by
      have:=mt hdiv.2 hd
      omega
     have hno:¬ capN < n * x:=by omega
     rw [if_neg hd,decide_eq_false hd,Bool.or_false,if_neg hno,decide_eq_false hno,Bool.or_false,prodI,Int.mul_assoc]
   ·rw [if_neg hl,if_neg hl]
theorem timesD_times (l:List Int):timesD 1 false l = times l:=by
 rw [timesD_eq l 1 false (by omega) (by decide),times_eq,Int.one_mul]
 rfl
end
section
def baseQ (c:List Df) (q:Qy) (o:Int):Int:=(c.getD (q.occ.getD o.toNat (-1)).toNat dfO).rows
def rowsL (c:List Df) (q:Qy) (s:Int):List Int:=((upto q.occ.length).filter fun o=>bitI s o.toNat).map (baseQ c q)
def wE (e:Ex):Int:=if e.pair.2.2 then 10 else 3
def Qy.fewer (q:Qy) (s:Int):Int:=prodI ((q.own s).map fun i=>wE (q.p.getD i.toNat exO))
def rowsQ (c:List Df) (q:Qy) (s:Int):Int:=if q.may c then max 1 (times (rowsL c q s) / q.fewer s) else 0
theorem wE_range (e:Ex):1 ≤ wE e ∧ wE e ≤ 10:=by unfold wE; split <;> omega
theorem prodI_one {α:Type} (f:α → Int):∀ l:List α,(∀ x ∈ l,1 ≤ f x) → 1 ≤ prodI (l.map f)
 | [],_=>by rw [List.map_nil,prodI]; omega
 | x :: l,h=>by
  rw [List.map_cons,prodI]
  have h1:=h x (by simp)
  have:=mul_ge (a:=f x) (by omega) (prodI_one f l fun y hy=>h y (by simp [hy]))
  omega
theorem prodI_idx (p:Ex → Bool) (w:Ex → Int) (P:List Ex):prodI ((idxF p P).map fun i=>w (P.getD i.toNat exO)) = prodI (P.map fun e=>if p e then w e else 1):=by
 induction P using snoc_ind with
 | h0=>rfl
 | h1 P e ih =>
  rw [idxF_snoc,List.map_append,prodI_append,List.map_append,prodI_append,← ih]
  congr 1
  ·congr 1
   refine List.map_congr_left fun i hi=>?_
   rw [idxF_mem] at hi
   rw [getD_left _ _ _ _ (by omega)]
  ·have h2:(P ++ [e]).getD ((P.length:Int)).toNat exO = e:=by simp
   split
   ·rename_i h
    simp only [List.map_cons,List.map_nil,prodI,h,if_true,h2]
   ·rename_i h
    simp only [List.map_cons,List.map_nil,prodI,h]
    rfl
def wT (s:Int) (e:Ex):Int:=if ownT s e then wE e else 1
theorem wT_range (s:Int) (e:Ex):1 ≤ wT s e ∧ wT s e ≤ 10:=by
 unfold wT
 have:=wE_range e
 split <;> omega
theorem fewer_eq (q:Qy) (s:Int):q.fewer s = prodI (q.p.map (wT s)):=prodI_idx _ _ _
theorem fewer_pos (q:Qy) (s:Int):1 ≤ q.fewer s:=by
 rw [fewer_eq]
 exact prodI_one _ _ fun x _=>(wT_range s x).1
theorem base_range {c:List Df} {q:Qy} (h:q.may c = true) {o:Int} (h0:0 ≤ o) (h1:o < q.occ.length):1 ≤ baseQ c q o ∧ baseQ c q o ≤ 1000000:=by
 obtain ⟨hc,_,_,ht,_⟩:=may_split h
 unfold baseQ
 have hlt:o.toNat < q.occ.length:=by omega
 rw [List.getD_eq_getElem?_getD (l:=q.occ),List.getElem?_eq_getElem hlt,Option.getD_some]
 have h2:=ht _ (List.getElem_mem hlt)
 have hlt2:q.occ[o.toNat].toNat < c.length:=by omega
 rw [List.getD_eq_getElem?_getD,List.getElem?_eq_getElem hlt2,Option.getD_some]
 simp only [catMay,Bool.and_eq_true,List.all_eq_true] at hc
 have h3:=hc.2 _ (List.getElem_mem hlt2)
 simp only [Df.may,Bool.and_eq_true,decide_eq_true_eq] at h3
 omega
theorem div_le_self' {a b:Int} (ha:0 ≤ a) (hb:1 ≤ b):a / b ≤ a:=Int.ediv_le_self _ ha
theorem div_nonneg' {a b:Int} (ha:0 ≤ a) (hb:1 ≤ b):0 ≤ a / b:=Int.ediv_nonneg ha (by omega)
end
section
theorem band_mask (x:Int) (h0:0 ≤ x) (h1:x < 18446744073709551616):band .u64 x 4294967295 = x % 4294967296:=by
 obtain ⟨n,rfl⟩:∃ n:Nat,x = n:=⟨x.toNat,by omega⟩
 have hn:n < 2 ^ 64:=by omega
 show IntKind.wrap .u64 ((BitVec.ofInt 64 (n:Int) &&& BitVec.ofInt 64 4294967295:BitVec 64).toNat:Int) = _
 have e1:(BitVec.ofInt 64 (n:Int)) = BitVec.ofNat 64 n:=by
  apply BitVec.eq_of_toNat_eq
  simp
 have e2:(BitVec.ofInt 64 4294967295) = BitVec.ofNat 64 4294967295:=by decide
 rw [e1,e2,BitVec.toNat_and,BitVec.toNat_ofNat,BitVec.toNat_ofNat,Nat.mod_eq_of_lt hn]
 have e3:n &&& (4294967295 % 2 ^ 64) = n % 4294967296:=by
  have:=Nat.and_two_pow_sub_one_eq_mod n 32
  simpa using this
 rw [e3,IntKind.wrap_u64]
 omega
theorem bshr_32 (x:Int) (h0:0 ≤ x):bshr .u64 x 32 = x / 4294967296:=by
 unfold bshr
 have e:(2:Int) ^ (min (32:Int).toNat IntKind.u64.bits) = 4294967296:=by decide
 rw [e,Int.fdiv_eq_ediv_of_nonneg _ (by omega)]
theorem mulHi_eq (x y:Int) (hx0:0 ≤ x) (hx1:x < 18446744073709551616) (hy0:0 ≤ y) (hy1:y < 18446744073709551616):mulHi x y = x * y / 18446744073709551616:=by
 have dx:0 ≤ x / 4294967296 ∧ x / 4294967296 ≤ 4294967295 ∧ 0 ≤ x % 4294967296 ∧ x % 4294967296 ≤ 4294967295 ∧ x = 4294967296 * (x / 4294967296) + x % 4294967296:=by omega
 have dy:0 ≤ y / 4294967296 ∧ y / 4294967296 ≤ 4294967295 ∧ 0 ≤ y % 4294967296 ∧ y % 4294967296 ≤ 4294967295 ∧ y = 4294967296 * (y / 4294967296) + y % 4294967296:=by omega
 unfold mulHi mulW
 rw [bshr_32 x hx0,bshr_32 y hy0,band_mask x hx0 hx1,band_mask y hy0 hy1]
 generalize x / 4294967296 = x1 at dx ⊢
 generalize x % 4294967296 = x0 at dx ⊢
 generalize y / 4294967296 = y1 at dy ⊢
 generalize y % 4294967296 = y0 at dy ⊢
 obtain ⟨a1,a2,a3,a4,rfl⟩:=dx
 obtain ⟨b1,b2,b3,b4,rfl⟩:=dy
 have prod:∀ u v:Int,0 ≤ u → u ≤ 4294967295 → 0 ≤ v → v ≤ 4294967295 → 0 ≤ u * v ∧ u * v ≤ 18446744065119617025:=fun u v h1 h2 h3 h4=>by
  refine ⟨Int.mul_nonneg h1 h3, ?_⟩
  have:=Int.mul_le_mul h2 h4 h3 (by omega:(0:Int) ≤ 4294967295)
  omega
 have p11:=prod x1 y1 a1 a2 b1 b2
 have p10:=prod x1 y0 a1 a2 b3 b4
 have p01:=prod x0 y1 a3 a4 b1 b2
 have p00:=prod x0 y0 a3 a4 b3 b4
 have expand:(4294967296 * x1 + x0) * (4294967296 * y1 + y0) = 18446744073709551616 * (x1 * y1) + 4294967296 * (x1 * y0 + x0 * y1) + x0 * y0:=by
  rw [Int.add_mul,Int.mul_add,Int.mul_add]
  have e1:4294967296 * x1 * (4294967296 * y1) = 18446744073709551616 * (x1 * y1):=by
   rw [Int.mul_assoc,Int.mul_left_comm x1,← Int.mul_assoc]; rfl
  have e2:4294967296 * x1 * y0 = 4294967296 * (x1 * y0):=Int.mul_assoc _ _ _
  have e3:x0 * (4294967296 * y1) = 4294967296 * (x0 * y1):=Int.mul_left_comm _ _ _
  rw [e1,e2,e3]
  omega
 rw [expand]
 generalize x1 * y1 = q11 at p11 ⊢
 generalize x1 * y0 = q10 at p10 ⊢
 generalize x0 * y1 = q01 at p01 ⊢
 generalize x0 * y0 = q00 at p00 ⊢
 simp only [IntKind.wrap_u64]
 have e00:q00 % 18446744073709551616 = q00:=by omega
 have e10:q10 % 18446744073709551616 = q10:=by omega
 have e01:q01 % 18446744073709551616 = q01:=by omega
 have e11:q11 % 18446744073709551616 = q11:=by omega
 rw [e00,e10,e01,e11,bshr_32 q00 p00.1]
 have eW:(q10 + q00 / 4294967296) % 18446744073709551616 = q10 + q00 / 4294967296:=by omega
 rw [eW,bshr_32 _ (by omega),band_mask _ (by omega) (by omega)]
 generalize hw:q10 + q00 / 4294967296 = W
 have eW2:(W % 4294967296 + q01) % 18446744073709551616 = W % 4294967296 + q01:=by omega
 rw [eW2,bshr_32 _ (by omega)]
 omega
def In64 (n:Int):Prop:=-9223372036854775808 ≤ n ∧ n ≤ 9223372036854775807
end
attribute [local push_cast] aops_cons aops_nil aopG_none aopG_some aopP_eq aopE_eq aopC_eq aopE?_eq aopC?_eq aopB_eq aopB?_eq abr anilq gopP_eq gopL_eq ahead_cons ahead_nil ahdG_none ahdG_some ahdP_eq ahdN_eq ahdC_eq ahdN?_eq ahdS_eq ahdS?_eq astoreN ahdC?_eq ghdP_eq ghdC_eq ghdC?_eq ghdZ_f ghdZ_t ahdI_eq ahdI?_eq ghdN?_eq aim_nil aim_cons isIn_nil isIn_none isIn_cons aimm aheP_eq aheA_eq aheC_eq aheC?_eq aheI?_eq aheA?_eq gheP_eq gheC_eq gheC?_eq gheZ_eq aheG_none aheG_some aheff_cons aheff_nil aapp gro_rsl gro_lit gro_esl opt_some opt_none no_eq acondT_true acondT_false acondT_lit aw_skip aw_region aw_regionD aw_seq aw_cond aw_block aw_loop aw_exit aw_label aw_ret thn_normal thn_exit thn_ret inb_normal inb_exit inb_ret qret_ret qret_normal gcond apure aeff anew acallee ares aresT aresL aresC ares1 qfin_eq ev ofV evL gokL tget tput_some tput_none initT abin aint aun aload afaddr aiaddr afield aindex aextract apick pickv_lit Bool.or_false Bool.false_or Bool.or_true Bool.true_or imp_self aslice chunk roomB abound aconv abuild afill splice alen aminmax abuiltin anil apart Value.oneCell' astore aappend srcEs abuildSlice amakeSlice amapPut alookup aput afind mget keyV sameV_int Option.isSome_some Option.isSome_none cond_true cond_false asets isEq plus_obj plus_nxt plus_add plus_set plus_del IntKind.bits Option.map_some Option.map_none Option.bind_some Option.bind_none Option.join_some Option.getD_some Option.getD_none Option.toList List.getElem?_toArray List.getElem?_cons_zero List.getElem?_cons_succ List.getElem?_nil List.length_cons List.length_nil List.length_map List.head?_cons List.cons_append List.nil_append List.append_nil List.map_cons List.map_nil List.getD_cons_zero List.getD_cons_succ List.replicate_succ List.replicate_zero List.set_cons_zero List.set_cons_succ List.take_succ_cons List.take_zero List.drop_succ_cons List.drop_zero List.all_cons List.all_nil Nat.zero_add if_true if_false true_and and_true false_and and_false true_implies implies_true forall_const Bool.and_true Bool.true_and Bool.false_and Bool.and_false Bool.true_beq Bool.false_beq Bool.not_not beq_tt beq_ff Int.toNat_natCast decide_true decide_false Bool.not_true Bool.not_false Bool.true_eq_false Bool.false_eq_true false_implies exists_prop eq_self bne_self_eq_false beq_self_eq_true decide_eq_true_eq decide_eq_false_iff_not Bool.not_eq_true' Bool.not_eq_false' AV.int AV.bool AV.nilS ne_eq not_false_eq_true not_true_eq_false exists_eq_left exists_eq_left' Nat.lt_irrefl core_lit grd_lit acells_lit one_lit core_agg grd_agg acells_agg one_agg core_tup grd_tup acells_tup one_tup core_sl grd_sl acells_sl one_sl core_esl grd_esl acells_esl one_esl core_rsl grd_rsl acells_rsl one_rsl core_ptr grd_ptr acells_ptr one_ptr core_iptr grd_iptr acells_iptr one_iptr core_clo grd_clo acells_clo one_clo core_mp grd_mp acells_mp one_mp core_any grd_any acells_any one_any core_gv grd_gv fit_agg fit_lit fit_sl fit_esl fit_rsl fit_ptr fit_iptr fit_clo fit_mp retq_ret retq_normal set_nxt set_set plus_obj_set plus_set_set app_get0 app_get app_set0 app_set List.append_assoc List.length_append List.length_set Nat.lt_add_one Nat.add_lt_add_iff_right Nat.lt_add_right_iff_pos Nat.add_lt_add_iff_left List.mem_cons List.not_mem_nil or_false forall_eq forall_eq_or_imp lt_s0 lt_s1 lt_s2 lt_s3 lt_s4 lt_s5 lt_s6 lt_s7 lt_s8 pickv_t pickv_f or_nand or_nand2 imp_and_l SealT SealOs sealO_cells sl_lit sl_any sl_agg sl_tup sl_sl sl_rsl slO sl_esl sl_nil sl_eslesl sl_eslnil sl_rslrsl sl_eslrsl sl_nilrsl sl_ptr sl_iptr sl_ptri slP sl_clo sl_mp sl_gv sll_nil sll_cons slll_nil slll_cons shut_eq shutO Option.join_none Fn.func.injEq and_self sealL_self sealLL_self seal_self PureL PureLL Pure Nat.le_refl Nat.zero_le AV.lit.injEq Value.int.injEq Value.bool.injEq false_or or_true true_or Int.natCast_zero Int.ofNat_zero Int.cast_ofNat_Int Int.natCast_add Int.natCast_one Option.some.injEq piL_is sop_nil sop_cons sop_none sop_some sopO_some sop_new shut_pi shutL_nil shutL_cons exQ_exit exQ_ret exQ_normal Go.Sim.Tryz.ty_load1 Go.Sim.Tryz.ty_zero1 Go.Sim.Tryz.ty_load2 Go.Sim.Tryz.ty_zero2 Go.Sim.Tryz.ty_und2 Go.Sim.Tryz.ty_load3 Go.Sim.Tryz.ty_zero3 Go.Sim.Tryz.ty_und3 Go.Sim.Tryz.ty_load4 Go.Sim.Tryz.ty_zero4 Go.Sim.Tryz.ty_und4 Go.Sim.Tryz.ty_load5 Go.Sim.Tryz.ty_zero5 Go.Sim.Tryz.ty_und5 Go.Sim.Tryz.ty_load9 Go.Sim.Tryz.ty_zero9 Go.Sim.Tryz.ty_und9 Go.Sim.Tryz.ty_load21 Go.Sim.Tryz.ty_zero21 Go.Sim.Tryz.ty_und21 Go.Sim.Tryz.ty_load22 Go.Sim.Tryz.ty_zero22 Go.Sim.Tryz.ty_el22 Go.Sim.Tryz.ty_zeroE22 Go.Sim.Tryz.ty_load24 Go.Sim.Tryz.ty_zero24 Go.Sim.Tryz.ty_fld24_0 Go.Sim.Tryz.ty_part24_0 Go.Sim.Tryz.ty_struct24 Go.Sim.Tryz.ty_load25 Go.Sim.Tryz.ty_zero25 Go.Sim.Tryz.ty_el25 Go.Sim.Tryz.ty_zeroE25 Go.Sim.Tryz.ty_load26 Go.Sim.Tryz.ty_zero26 Go.Sim.Tryz.ty_el26 Go.Sim.Tryz.ty_zeroE26 Go.Sim.Tryz.ty_load28 Go.Sim.Tryz.ty_zero28 Go.Sim.Tryz.ty_fld28_0 Go.Sim.Tryz.ty_part28_0 Go.Sim.Tryz.ty_fld28_1 Go.Sim.Tryz.ty_part28_1 Go.Sim.Tryz.ty_fld28_2 Go.Sim.Tryz.ty_part28_2 Go.Sim.Tryz.ty_fld28_3 Go.Sim.Tryz.ty_part28_3 Go.Sim.Tryz.ty_fld28_4 Go.Sim.Tryz.ty_part28_4 Go.Sim.Tryz.ty_fld28_5 Go.Sim.Tryz.ty_part28_5 Go.Sim.Tryz.ty_struct28 Go.Sim.Tryz.ty_load29 Go.Sim.Tryz.ty_zero29 Go.Sim.Tryz.ty_arr29 Go.Sim.Tryz.ty_part29_0 Go.Sim.Tryz.ty_part29_1 Go.Sim.Tryz.ty_struct29 Go.Sim.Tryz.ty_load30 Go.Sim.Tryz.ty_zero30 Go.Sim.Tryz.ty_el30 Go.Sim.Tryz.ty_zeroE30 Go.Sim.Tryz.ty_load32 Go.Sim.Tryz.ty_zero32 Go.Sim.Tryz.ty_fld32_0 Go.Sim.Tryz.ty_part32_0 Go.Sim.Tryz.ty_fld32_1 Go.Sim.Tryz.ty_part32_1 Go.Sim.Tryz.ty_fld32_2 Go.Sim.Tryz.ty_part32_2 Go.Sim.Tryz.ty_fld32_3 Go.Sim.Tryz.ty_part32_3 Go.Sim.Tryz.ty_struct32 Go.Sim.Tryz.ty_load37 Go.Sim.Tryz.ty_zero37 Go.Sim.Tryz.ty_el37 Go.Sim.Tryz.ty_zeroE37 Go.Sim.Tryz.ty_load39 Go.Sim.Tryz.ty_zero39 Go.Sim.Tryz.ty_fld39_0 Go.Sim.Tryz.ty_part39_0 Go.Sim.Tryz.ty_fld39_1 Go.Sim.Tryz.ty_part39_1 Go.Sim.Tryz.ty_struct39 Go.Sim.Tryz.ty_load52 Go.Sim.Tryz.ty_zero52 Go.Sim.Tryz.ty_fld52_0 Go.Sim.Tryz.ty_part52_0 Go.Sim.Tryz.ty_fld52_1 Go.Sim.Tryz.ty_part52_1 Go.Sim.Tryz.ty_fld52_2 Go.Sim.Tryz.ty_part52_2 Go.Sim.Tryz.ty_struct52 Go.Sim.Tryz.ty_load55 Go.Sim.Tryz.ty_zero55 Go.Sim.Tryz.ty_load56 Go.Sim.Tryz.ty_zero56 Go.Sim.Tryz.ty_load70 Go.Sim.Tryz.ty_zero70 Go.Sim.Tryz.ty_el70 Go.Sim.Tryz.ty_zeroE70 Go.Sim.Tryz.ty_load76 Go.Sim.Tryz.ty_zero76 Go.Sim.Tryz.ty_el76 Go.Sim.Tryz.ty_zeroE76 Go.Sim.Tryz.ty_load78 Go.Sim.Tryz.ty_zero78 Go.Sim.Tryz.ty_fld78_0 Go.Sim.Tryz.ty_part78_0 Go.Sim.Tryz.ty_struct78 Go.Sim.Tryz.ty_load84 Go.Sim.Tryz.ty_zero84 Go.Sim.Tryz.ty_fld84_0 Go.Sim.Tryz.ty_part84_0 Go.Sim.Tryz.ty_struct84 Go.Sim.Tryz.ty_load85 Go.Sim.Tryz.ty_zero85 Go.Sim.Tryz.ty_load92 Go.Sim.Tryz.ty_zero92 Go.Sim.Tryz.ty_load93 Go.Sim.Tryz.ty_zero93 Go.Sim.Tryz.ty_und93 Go.Sim.Tryz.ty_load95 Go.Sim.Tryz.ty_zero95 Go.Sim.Tryz.ty_und95 Go.Sim.Tryz.ty_load104 Go.Sim.Tryz.ty_zero104 Go.Sim.Tryz.ty_fld104_0 Go.Sim.Tryz.ty_part104_0 Go.Sim.Tryz.ty_fld104_1 Go.Sim.Tryz.ty_part104_1 Go.Sim.Tryz.ty_struct104 Go.Sim.Tryz.ty_load110 Go.Sim.Tryz.ty_zero110 Go.Sim.Tryz.ty_fld110_0 Go.Sim.Tryz.ty_part110_0 Go.Sim.Tryz.ty_fld110_1 Go.Sim.Tryz.ty_part110_1 Go.Sim.Tryz.ty_struct110 Go.Sim.Tryz.ty_load112 Go.Sim.Tryz.ty_zero112 Go.Sim.Tryz.ty_fld112_0 Go.Sim.Tryz.ty_part112_0 Go.Sim.Tryz.ty_fld112_1 Go.Sim.Tryz.ty_part112_1 Go.Sim.Tryz.ty_fld112_2 Go.Sim.Tryz.ty_part112_2 Go.Sim.Tryz.ty_fld112_3 Go.Sim.Tryz.ty_part112_3 Go.Sim.Tryz.ty_struct112 Go.Sim.Tryz.ty_load119 Go.Sim.Tryz.ty_zero119 Go.Sim.Tryz.ty_load123 Go.Sim.Tryz.ty_zero123 Go.Sim.Tryz.ty_fld123_0 Go.Sim.Tryz.ty_part123_0 Go.Sim.Tryz.ty_fld123_1 Go.Sim.Tryz.ty_part123_1 Go.Sim.Tryz.ty_struct123 Go.Sim.Tryz.ty_load124 Go.Sim.Tryz.ty_zero124 Go.Sim.Tryz.ty_el124 Go.Sim.Tryz.ty_zeroE124 Go.Sim.Tryz.ty_load125 Go.Sim.Tryz.ty_zero125 Go.Sim.Tryz.ty_el125 Go.Sim.Tryz.ty_zeroE125 Go.Sim.Tryz.ty_load128 Go.Sim.Tryz.ty_zero128 Go.Sim.Tryz.ty_fld128_0 Go.Sim.Tryz.ty_part128_0 Go.Sim.Tryz.ty_struct128 Go.Sim.Tryz.ty_load135 Go.Sim.Tryz.ty_zero135 Go.Sim.Tryz.ty_und135 Go.Sim.Tryz.ty_load140 Go.Sim.Tryz.ty_zero140 Go.Sim.Tryz.ty_load141 Go.Sim.Tryz.ty_zero141 Go.Sim.Tryz.ty_el141 Go.Sim.Tryz.ty_zeroE141 Go.Sim.Tryz.ty_load148 Go.Sim.Tryz.ty_zero148 Go.Sim.Tryz.ty_load151 Go.Sim.Tryz.ty_zero151 Go.Sim.Tryz.ty_load159 Go.Sim.Tryz.ty_zero159 Go.Sim.Tryz.ty_und159 Go.Sim.Tryz.ty_vzero128 Go.Sim.Tryz.ty_load168 Go.Sim.Tryz.ty_zero168 Go.Sim.Tryz.ty_fld168_0 Go.Sim.Tryz.ty_part168_0 Go.Sim.Tryz.ty_fld168_1 Go.Sim.Tryz.ty_part168_1 Go.Sim.Tryz.ty_fld168_2 Go.Sim.Tryz.ty_part168_2 Go.Sim.Tryz.ty_struct168 Go.Sim.Tryz.ty_load170 Go.Sim.Tryz.ty_zero170 Go.Sim.Tryz.ty_load172 Go.Sim.Tryz.ty_zero172 Go.Sim.Tryz.ty_und172 Go.Sim.Tryz.ty_load179 Go.Sim.Tryz.ty_zero179 Go.Sim.Tryz.ty_und179 Go.Sim.Tryz.ty_load181 Go.Sim.Tryz.ty_zero181 Go.Sim.Tryz.ty_load184 Go.Sim.Tryz.ty_zero184 Go.Sim.Tryz.ty_und184 Go.Sim.Tryz.ty_load188 Go.Sim.Tryz.ty_zero188 Go.Sim.Tryz.ty_load191 Go.Sim.Tryz.ty_zero191
section
attribute [local push_cast] encE_mk encE_take encE_len encV encE_one encEs_pure encE_pure
theorem posL_snoc (l:List Int) (i:Nat) (h:i < l.length):posL (l.take (i + 1)) = (posL (l.take i) && decide (0 < l[i])):=by
 rw [List.take_succ_eq_append_getElem h,posL_append]
 simp [posL]
theorem prodI_snoc (l:List Int) (i:Nat) (h:i < l.length):prodI (l.take (i + 1)) = prodI (l.take i) * l[i]:=by
 rw [List.take_succ_eq_append_getElem h,prodI_append,prodI,prodI,Int.mul_one]
theorem posL_mem {l:List Int} {i:Nat} (h:i < l.length) (h0:l[i] ≤ 0):¬ posL l = true:=by
 intro hp
 rw [posL,List.all_eq_true] at hp
 have:=hp _ (List.getElem_mem h)
 rw [decide_eq_true_eq] at this
 omega
theorem cap_step {a x:Int} (ha:1 ≤ a) (hx:1 ≤ x):cap (cap a * x) = cap (a * x):=cap_mul (by omega) hx
theorem times_ok (l:List Int) (hl:l.length ≤ 1000000) (hin:∀ x ∈ l,In64 x):Quiet Go.Proofs.Tryz.prog 72 [.sl (l.map encI)] (.int (times l)):=by
 refine quiet_of (rs:=#[.tmp 2]) Go.Proofs.Tryz.func72 rfl rfl rfl mixed rfl rfl fun H hs=>?_
 simp -implicitDefEqProofs only [push_cast,Nat.reduceAdd,Nat.reduceSub,Nat.reduceMul,Nat.reduceLT,Nat.reduceLeDiff,Nat.reduceEqDiff,Nat.reduceBEq,reduceCtorEq,reduceIte,Int.reduceLE,Int.reduceLT,Int.reduceNeg,Int.reduceToNat]
 refine loop_rule hs (σ:=Nat) (fun i=>i ≤ l.length ∧ posL (l.take i) = true) (fun i=>l.length - i)
  (fun i=>[(8, .sl (l.map encI)),(3, .lit (.int .u64 (cap (prodI (l.take i))))),(9, .int l.length),(10, .int i)]) (fun _=>[]) 0 ⟨by omega,rfl⟩ ?_ ?_ ?_
 ·(try simp -implicitDefEqProofs only [push_cast,Nat.reduceAdd,Nat.reduceSub,Nat.reduceMul,Nat.reduceLT,Nat.reduceLeDiff,Nat.reduceEqDiff,Nat.reduceBEq,reduceCtorEq,reduceIte,Int.reduceLE,Int.reduceLT,Int.reduceNeg,Int.reduceToNat,encIs_pure])
  rfl
 ·(try simp -implicitDefEqProofs only [push_cast,Nat.reduceAdd,Nat.reduceSub,Nat.reduceMul,Nat.reduceLT,Nat.reduceLeDiff,Nat.reduceEqDiff,Nat.reduceBEq,reduceCtorEq,reduceIte,Int.reduceLE,Int.reduceLT,Int.reduceNeg,Int.reduceToNat])
 ·rintro i ⟨h2,h3⟩
  by_cases hi:i < l.length
  ·have hi':((i:Int) < (l.length:Int)) = True:=by simp; omega
   have hi0:(0 ≤ (i:Int)) = True:=by simp
   have hc:=hin l[i] (List.getElem_mem hi)
   unfold In64 at hc
   simp -implicitDefEqProofs only [push_cast,Nat.reduceAdd,Nat.reduceSub,Nat.reduceMul,Nat.reduceLT,Nat.reduceLeDiff,Nat.reduceEqDiff,Nat.reduceBEq,reduceCtorEq,reduceIte,Int.reduceLE,Int.reduceLT,Int.reduceNeg,Int.reduceToNat,hi',hi0,encIs_get l i hi,encI]
   refine ⟨fun h=>?_,fun h=>?_⟩
   ·(try simp -implicitDefEqProofs only [push_cast,Nat.reduceAdd,Nat.reduceSub,Nat.reduceMul,Nat.reduceLT,Nat.reduceLeDiff,Nat.reduceEqDiff,Nat.reduceBEq,reduceCtorEq,reduceIte,Int.reduceLE,Int.reduceLT,Int.reduceNeg,Int.reduceToNat])
    rw [times_zero (posL_mem hi (by simpa using h))]
   ·have hx:0 < l[i]:=by simpa using h
    refine callq (mul64_ok _ _) ?_
    have e1:IntKind.wrap .u64 l[i] = l[i]:=by rw [IntKind.wrap_u64]; omega
    have hN1:=cap_pos (prodI_pos h3)
    have hN2:=cap_le (prodI (l.take i))
    have hst:cap (prodI (l.take (i + 1))) = cap (cap (prodI (l.take i)) * l[i]):=by rw [prodI_snoc l i hi,cap_step (prodI_pos h3) hx]
    have hpo:posL (l.take (i + 1)) = true:=by rw [posL_snoc l i hi,h3,decide_eq_true hx]; rfl
    rw [e1]
    unfold capN at hN2
    have hmul:=mulHi_eq (cap (prodI (l.take i))) l[i] (by omega) (by omega) (by omega) (by omega)
    rw [hmul]
    generalize hN:cap (prodI (l.take i)) = N at *
    have hge:=mul_ge (a:=N) (b:=l[i]) (by omega) hx
    simp -implicitDefEqProofs only [push_cast,Nat.reduceAdd,Nat.reduceSub,Nat.reduceMul,Nat.reduceLT,Nat.reduceLeDiff,Nat.reduceEqDiff,Nat.reduceBEq,reduceCtorEq,reduceIte,Int.reduceLE,Int.reduceLT,Int.reduceNeg,Int.reduceToNat]
    have hcap:cap (N * l[i]) = if 1099511627776 < N * l[i] then 1099511627776 else N * l[i]:=by
     unfold cap capN
     split <;> omega
    generalize hM:N * l[i] = M at *
    rw [wrap64 (n:=(i:Int) + 1) (by omega) (by omega),IntKind.wrap_u64]
    refine ⟨fun hb=>?_,fun hb=>?_⟩
    ·have hv:cap (prodI (l.take (i + 1))) = 1099511627776:=by rw [hst,hcap,if_pos (by omega)]
     refine next_intro (i + 1) ⟨by omega,hpo⟩ (by omega) ?_ ?_
     ·(try simp -implicitDefEqProofs only [push_cast,Nat.reduceAdd,Nat.reduceSub,Nat.reduceMul,Nat.reduceLT,Nat.reduceLeDiff,Nat.reduceEqDiff,Nat.reduceBEq,reduceCtorEq,reduceIte,Int.reduceLE,Int.reduceLT,Int.reduceNeg,Int.reduceToNat,hv,encIs_pure])
     ·(try simp -implicitDefEqProofs only [push_cast,Nat.reduceAdd,Nat.reduceSub,Nat.reduceMul,Nat.reduceLT,Nat.reduceLeDiff,Nat.reduceEqDiff,Nat.reduceBEq,reduceCtorEq,reduceIte,Int.reduceLE,Int.reduceLT,Int.reduceNeg,Int.reduceToNat])
    ·have hm:M % 18446744073709551616 = M:=by omega
     rw [hm]
     have hv:cap (prodI (l.take (i + 1))) = if 1099511627776 < M then 1099511627776 else M:=by rw [hst,hcap]
     refine next_intro (i + 1) ⟨by omega,hpo⟩ (by omega) ?_ ?_
     ·(try simp -implicitDefEqProofs only [push_cast,Nat.reduceAdd,Nat.reduceSub,Nat.reduceMul,Nat.reduceLT,Nat.reduceLeDiff,Nat.reduceEqDiff,Nat.reduceBEq,reduceCtorEq,reduceIte,Int.reduceLE,Int.reduceLT,Int.reduceNeg,Int.reduceToNat,hv,encIs_pure])
     ·(try simp -implicitDefEqProofs only [push_cast,Nat.reduceAdd,Nat.reduceSub,Nat.reduceMul,Nat.reduceLT,Nat.reduceLeDiff,Nat.reduceEqDiff,Nat.reduceBEq,reduceCtorEq,reduceIte,Int.reduceLE,Int.reduceLT,Int.reduceNeg,Int.reduceToNat])
  ·have hi':((i:Int) < (l.length:Int)) = False:=by simp; omega
   rw [List.take_of_length_le (by omega)] at h3
   simp -implicitDefEqProofs only [push_cast,Nat.reduceAdd,Nat.reduceSub,Nat.reduceMul,Nat.reduceLT,Nat.reduceLeDiff,Nat.reduceEqDiff,Nat.reduceBEq,reduceCtorEq,reduceIte,Int.reduceLE,Int.reduceLT,Int.reduceNeg,Int.reduceToNat,hi']
   (try simp -implicitDefEqProofs only [push_cast,Nat.reduceAdd,Nat.reduceSub,Nat.reduceMul,Nat.reduceLT,Nat.reduceLeDiff,Nat.reduceEqDiff,Nat.reduceBEq,reduceCtorEq,reduceIte,Int.reduceLE,Int.reduceLT,Int.reduceNeg,Int.reduceToNat])
   rw [List.take_of_length_le (by omega),times_eq,if_pos h3]
   have h1:=cap_pos (prodI_pos h3)
   have h4:=cap_le (prodI l)
   unfold capN at h4
   rw [wrap64 (by omega) (by omega)]
end
section
attribute [local push_cast] encE_mk encE_take encE_len encV encE_one encEs_pure encE_pure
def baseR (c:List Df) (q:Qy) (o:Int):Int:=if q.may c = true ∧ 0 ≤ o ∧ o < q.occ.length then baseQ c q o else 0
theorem base_get {c:List Df} {q:Qy} (h:q.may c = true) {k:Nat} (hk:k < q.occ.length):∃ t:Nat,q.occ[k] = t ∧ ∃ ht:t < c.length,baseQ c q k = c[t].rows:=by
 have hr:=(may_split h).2.2.2.1 _ (List.getElem_mem hk)
 refine ⟨q.occ[k].toNat,by omega,by omega, ?_⟩
 rw [baseQ,Int.toNat_natCast,List.getD_eq_getElem?_getD (l:=q.occ),List.getElem?_eq_getElem hk,Option.getD_some,List.getD_eq_getElem?_getD,List.getElem?_eq_getElem (by omega)]
 rfl
theorem Base_ok (c:List Df) (hcl:c.length ≤ 1000000) (q:Qy) (hq:q.Ok) (o:Int) (hin:In64 o):Quiet Go.Proofs.Tryz.prog 71 [.agg [.sl (c.map encD)], .agg (encQ q), .int o] (.int (baseR c q o)):=by
 refine quiet_of (rs:=#[.tmp 6]) Go.Proofs.Tryz.func71 rfl rfl rfl mixed rfl rfl fun H hs=>?_
 simp -implicitDefEqProofs only [push_cast,Nat.reduceAdd,Nat.reduceSub,Nat.reduceMul,Nat.reduceLT,Nat.reduceLeDiff,Nat.reduceEqDiff,Nat.reduceBEq,reduceCtorEq,reduceIte,Int.reduceLE,Int.reduceLT,Int.reduceNeg,Int.reduceToNat,encQ]
 refine callq (MayQ_ok c hcl q hq) ?_
 simp -implicitDefEqProofs only [push_cast,Nat.reduceAdd,Nat.reduceSub,Nat.reduceMul,Nat.reduceLT,Nat.reduceLeDiff,Nat.reduceEqDiff,Nat.reduceBEq,reduceCtorEq,reduceIte,Int.reduceLE,Int.reduceLT,Int.reduceNeg,Int.reduceToNat,encQ]
 have hO:=hq.2.2.1
 by_cases hc:q.may c = true ∧ 0 ≤ o ∧ o < q.occ.length
 ·obtain ⟨hm,h0,h1⟩:=hc
  have hb:baseR c q o = baseQ c q o:=if_pos ⟨hm,h0,h1⟩
  obtain ⟨k,rfl⟩:∃ k:Nat,o = k:=⟨o.toNat,by omega⟩
  have hk:k < q.occ.length:=by omega
  obtain ⟨t,ht,htl,hbq⟩:=base_get hm hk
  have c1:((k:Int) < 0) = False:=by simp
  have c2:((q.occ.length:Int) ≤ (k:Int)) = False:=by simp; omega
  have k0:(0 ≤ (k:Int)) = True:=by simp
  have k1:((k:Int) < (q.occ.length:Int)) = True:=by simp; omega
  have t0:(0 ≤ (t:Int)) = True:=by simp
  have t1:((t:Int) < (c.length:Int)) = True:=by simp; omega
  rw [hb,hbq,hm]
  simp -implicitDefEqProofs only [push_cast,Nat.reduceAdd,Nat.reduceSub,Nat.reduceMul,Nat.reduceLT,Nat.reduceLeDiff,Nat.reduceEqDiff,Nat.reduceBEq,reduceCtorEq,reduceIte,Int.reduceLE,Int.reduceLT,Int.reduceNeg,Int.reduceToNat,c1,c2]
  refine areg_at 11 (by kernel_rfl) (by kernel_rfl) ?_
  simp -implicitDefEqProofs only [push_cast,Nat.reduceAdd,Nat.reduceSub,Nat.reduceMul,Nat.reduceLT,Nat.reduceLeDiff,Nat.reduceEqDiff,Nat.reduceBEq,reduceCtorEq,reduceIte,Int.reduceLE,Int.reduceLT,Int.reduceNeg,Int.reduceToNat,encQ,k0,k1,encIs_get q.occ k hk,encI,ht,t0,t1,encDs_get c t htl,encD]
 ·have hb:baseR c q o = 0:=if_neg hc
  have hcond:(!q.may c || decide (o < 0) || decide ((q.occ.length:Int) ≤ o)) = true:=by
   rcases Bool.eq_false_or_eq_true (!q.may c || decide (o < 0) || decide ((q.occ.length:Int) ≤ o)) with h | h
   ·exact h
   exfalso
   simp only [Bool.or_eq_false_iff,Bool.not_eq_false',decide_eq_false_iff_not] at h
   exact hc ⟨h.1.1,by omega,by omega⟩
  rw [hb]
  simp -implicitDefEqProofs only [push_cast,Nat.reduceAdd,Nat.reduceSub,Nat.reduceMul,Nat.reduceLT,Nat.reduceLeDiff,Nat.reduceEqDiff,Nat.reduceBEq,reduceCtorEq,reduceIte,Int.reduceLE,Int.reduceLT,Int.reduceNeg,Int.reduceToNat,hcond]
theorem divs_ok:Quiet Go.Proofs.Tryz.prog 127 [] (.agg [.int 3, .int 10]):=by
 refine quiet_of (rs:=#[.cell 0 29]) Go.Proofs.Tryz.func127 rfl rfl rfl mixed rfl rfl fun H hs=>?_
 simp -implicitDefEqProofs only [push_cast,Nat.reduceAdd,Nat.reduceSub,Nat.reduceMul,Nat.reduceLT,Nat.reduceLeDiff,Nat.reduceEqDiff,Nat.reduceBEq,reduceCtorEq,reduceIte,Int.reduceLE,Int.reduceLT,Int.reduceNeg,Int.reduceToNat]
theorem prodI_cons (x:Int) (l:List Int):prodI (x :: l) = x * prodI l:=rfl
theorem fewerTo_snoc (q:Qy) (l:List Int) (i:Nat) (h:i < l.length):prodI ((l.take (i + 1)).map fun i=>wE (q.p.getD i.toNat exO)) = prodI ((l.take i).map fun i=>wE (q.p.getD i.toNat exO)) * wE (q.p.getD l[i].toNat exO):=by
 rw [List.take_succ_eq_append_getElem h,List.map_append,prodI_append]
 congr 1
 rw [List.map_cons,List.map_nil,prodI_cons]
 exact Int.mul_one _
theorem fewerTo_range (q:Qy):∀ l:List Int,1 ≤ prodI (l.map fun i=>wE (q.p.getD i.toNat exO)) ∧ prodI (l.map fun i=>wE (q.p.getD i.toNat exO)) ≤ 10 ^ l.length
 | []=>by simp [prodI]
 | x :: l=>by
  have ih:=fewerTo_range q l
  have hw:=wE_range (q.p.getD x.toNat exO)
  rw [List.map_cons,prodI_cons,List.length_cons,Int.pow_succ]
  generalize prodI (l.map fun i=>wE (q.p.getD i.toNat exO)) = p at ih ⊢
  generalize wE (q.p.getD x.toNat exO) = w at hw ⊢
  have h1:w * p ≤ 10 * p:=Int.mul_le_mul_of_nonneg_right hw.2 (by omega)
  have h2:1 * p ≤ w * p:=Int.mul_le_mul_of_nonneg_right hw.1 (by omega)
  omega
theorem pow_ten {n:Nat} (h:n ≤ 8):(10:Int) ^ n ≤ 100000000:=by
 have hc:n = 0 ∨ n = 1 ∨ n = 2 ∨ n = 3 ∨ n = 4 ∨ n = 5 ∨ n = 6 ∨ n = 7 ∨ n = 8:=by omega
 rcases hc with rfl | rfl | rfl | rfl | rfl | rfl | rfl | rfl | rfl <;> decide
theorem fewer_ok (q:Qy) (hq:q.Ok) (h8:q.p.length ≤ 8) (s:Int):Quiet Go.Proofs.Tryz.prog 73 [.agg (encQ q), .int s] (.int (q.fewer s)):=by
 have hown:=Own_ok q hq s
 have hl:(q.own s).length ≤ 8:=Nat.le_trans (idxF_lt _ _) h8
 have hm:∀ i ∈ q.own s,0 ≤ i ∧ i < q.p.length:=fun i hi=>by rw [Qy.own,idxF_mem] at hi; omega
 rw [Qy.fewer]
 generalize q.own s = l at hown hl hm ⊢
 refine quiet_of (rs:=#[.tmp 4]) Go.Proofs.Tryz.func73 rfl rfl rfl mixed rfl rfl fun H hs=>?_
 simp -implicitDefEqProofs only [push_cast,Nat.reduceAdd,Nat.reduceSub,Nat.reduceMul,Nat.reduceLT,Nat.reduceLeDiff,Nat.reduceEqDiff,Nat.reduceBEq,reduceCtorEq,reduceIte,Int.reduceLE,Int.reduceLT,Int.reduceNeg,Int.reduceToNat,encQ]
 refine callq hown ?_
 simp -implicitDefEqProofs only [push_cast,Nat.reduceAdd,Nat.reduceSub,Nat.reduceMul,Nat.reduceLT,Nat.reduceLeDiff,Nat.reduceEqDiff,Nat.reduceBEq,reduceCtorEq,reduceIte,Int.reduceLE,Int.reduceLT,Int.reduceNeg,Int.reduceToNat,encQ]
 refine loop_at hs (σ:=Nat) (fun i=>i ≤ l.length) (fun i=>l.length - i)
  (fun i=>[(16, .int i),(15, .int l.length),(14, .sl (l.map encI)),(2, .ptr (H.nxt + 0) 6 0 0),(5, .int (prodI ((l.take i).map fun i=>wE (q.p.getD i.toNat exO))))]) (fun i=>[some (.cells 6 [encQ q] 0)]) [some 0] 0 (by omega) rfl ?_ ?_ ?_
 ·(try simp -implicitDefEqProofs only [push_cast,Nat.reduceAdd,Nat.reduceSub,Nat.reduceMul,Nat.reduceLT,Nat.reduceLeDiff,Nat.reduceEqDiff,Nat.reduceBEq,reduceCtorEq,reduceIte,Int.reduceLE,Int.reduceLT,Int.reduceNeg,Int.reduceToNat,encEs_pure,encIs_pure,encQ,List.take_zero,List.map_nil,prodI])
 ·(try simp -implicitDefEqProofs only [push_cast,Nat.reduceAdd,Nat.reduceSub,Nat.reduceMul,Nat.reduceLT,Nat.reduceLeDiff,Nat.reduceEqDiff,Nat.reduceBEq,reduceCtorEq,reduceIte,Int.reduceLE,Int.reduceLT,Int.reduceNeg,Int.reduceToNat,encEs_pure,encIs_pure,encQ])
 intro i hi2
 by_cases hi:i < l.length
 ·have hi':((i:Int) < (l.length:Int)) = True:=by simp; omega
  have hi0:(0 ≤ (i:Int)) = True:=by simp
  obtain ⟨h0,h1⟩:=hm _ (List.getElem_mem hi)
  obtain ⟨k,hk⟩:∃ k:Nat,l[i] = k:=⟨l[i].toNat,by omega⟩
  have hkl:k < q.p.length:=by omega
  have hk0:(0 ≤ (k:Int)) = True:=by simp
  have hk':((k:Int) < (q.p.length:Int)) = True:=by simp; omega
  have hok:=hq.2.1 _ (List.getElem_mem hkl)
  have hge:q.p.getD l[i].toNat exO = q.p[k]:=by
   rw [hk,Int.toNat_natCast,List.getD_eq_getElem?_getD,List.getElem?_eq_getElem hkl]; rfl
  have hsn:=fewerTo_snoc q l i hi
  have hrg:=fewerTo_range q (l.take i)
  have hp:=pow_ten (n:=(l.take i).length) (by rw [List.length_take]; omega)
  rw [hge] at hsn
  generalize prodI ((l.take i).map fun i=>wE (q.p.getD i.toNat exO)) = v at hsn hrg ⊢
  simp -implicitDefEqProofs only [push_cast,Nat.reduceAdd,Nat.reduceSub,Nat.reduceMul,Nat.reduceLT,Nat.reduceLeDiff,Nat.reduceEqDiff,Nat.reduceBEq,reduceCtorEq,reduceIte,Int.reduceLE,Int.reduceLT,Int.reduceNeg,Int.reduceToNat,hi',hi0,encIs_get l i hi,encI,hk,hk0,hk',encEs_get q.p k hkl,encQ]
  refine callq (Pair_ok _ hok.1) ?_
  simp -implicitDefEqProofs only [push_cast,Nat.reduceAdd,Nat.reduceSub,Nat.reduceMul,Nat.reduceLT,Nat.reduceLeDiff,Nat.reduceEqDiff,Nat.reduceBEq,reduceCtorEq,reduceIte,Int.reduceLE,Int.reduceLT,Int.reduceNeg,Int.reduceToNat,encQ]
  have hv:v ≤ 100000000:=by omega
  refine ⟨fun h=>callq divs_ok ?_,fun h=>callq divs_ok ?_⟩
  ·have hw:(10:Int) = wE q.p[k]:=by rw [wE,if_pos h]
   rw [← hw] at hsn
   simp -implicitDefEqProofs only [push_cast,Nat.reduceAdd,Nat.reduceSub,Nat.reduceMul,Nat.reduceLT,Nat.reduceLeDiff,Nat.reduceEqDiff,Nat.reduceBEq,reduceCtorEq,reduceIte,Int.reduceLE,Int.reduceLT,Int.reduceNeg,Int.reduceToNat,encQ]
   rw [wrap64 (n:=(i:Int) + 1) (by omega) (by omega),wrap64 (by omega) (by omega)]
   refine ⟨by decide,next_at [some 0] (i + 1) (by omega) (by omega) rfl ?_ ?_⟩
   ·(try simp -implicitDefEqProofs only [push_cast,Nat.reduceAdd,Nat.reduceSub,Nat.reduceMul,Nat.reduceLT,Nat.reduceLeDiff,Nat.reduceEqDiff,Nat.reduceBEq,reduceCtorEq,reduceIte,Int.reduceLE,Int.reduceLT,Int.reduceNeg,Int.reduceToNat,hsn,encEs_pure,encIs_pure,encQ])
   ·(try simp -implicitDefEqProofs only [push_cast,Nat.reduceAdd,Nat.reduceSub,Nat.reduceMul,Nat.reduceLT,Nat.reduceLeDiff,Nat.reduceEqDiff,Nat.reduceBEq,reduceCtorEq,reduceIte,Int.reduceLE,Int.reduceLT,Int.reduceNeg,Int.reduceToNat,encEs_pure,encIs_pure,encQ])
  ·have hw:(3:Int) = wE q.p[k]:=by rw [wE,if_neg (by simp [h])]
   rw [← hw] at hsn
   simp -implicitDefEqProofs only [push_cast,Nat.reduceAdd,Nat.reduceSub,Nat.reduceMul,Nat.reduceLT,Nat.reduceLeDiff,Nat.reduceEqDiff,Nat.reduceBEq,reduceCtorEq,reduceIte,Int.reduceLE,Int.reduceLT,Int.reduceNeg,Int.reduceToNat,encQ]
   rw [wrap64 (n:=(i:Int) + 1) (by omega) (by omega),wrap64 (by omega) (by omega)]
   refine ⟨by decide,next_at [some 0] (i + 1) (by omega) (by omega) rfl ?_ ?_⟩
   ·(try simp -implicitDefEqProofs only [push_cast,Nat.reduceAdd,Nat.reduceSub,Nat.reduceMul,Nat.reduceLT,Nat.reduceLeDiff,Nat.reduceEqDiff,Nat.reduceBEq,reduceCtorEq,reduceIte,Int.reduceLE,Int.reduceLT,Int.reduceNeg,Int.reduceToNat,hsn,encEs_pure,encIs_pure,encQ])
   ·(try simp -implicitDefEqProofs only [push_cast,Nat.reduceAdd,Nat.reduceSub,Nat.reduceMul,Nat.reduceLT,Nat.reduceLeDiff,Nat.reduceEqDiff,Nat.reduceBEq,reduceCtorEq,reduceIte,Int.reduceLE,Int.reduceLT,Int.reduceNeg,Int.reduceToNat,encEs_pure,encIs_pure,encQ])
 ·have hi':((i:Int) < (l.length:Int)) = False:=by simp; omega
  have h5:l.take i = l:=List.take_of_length_le (by omega)
  simp -implicitDefEqProofs only [push_cast,Nat.reduceAdd,Nat.reduceSub,Nat.reduceMul,Nat.reduceLT,Nat.reduceLeDiff,Nat.reduceEqDiff,Nat.reduceBEq,reduceCtorEq,reduceIte,Int.reduceLE,Int.reduceLT,Int.reduceNeg,Int.reduceToNat,hi',h5]
def rowsTo (c:List Df) (q:Qy) (s:Int) (k:Nat):List Int:=((upto k).filter fun o=>bitI s o.toNat).map (baseQ c q)
theorem rowsTo_yes (c:List Df) (q:Qy) (s:Int) (k:Nat) (h:bitI s k = true):rowsTo c q s (k + 1) = rowsTo c q s k ++ [baseQ c q k]:=by
 rw [rowsTo,upto_snoc,List.filter_append,List.filter_cons,Int.toNat_natCast,if_pos h,List.filter_nil,List.map_append]
 rfl
theorem rowsTo_no (c:List Df) (q:Qy) (s:Int) (k:Nat) (h:bitI s k = false):rowsTo c q s (k + 1) = rowsTo c q s k:=by
 rw [rowsTo,upto_snoc,List.filter_append,List.filter_cons,Int.toNat_natCast,if_neg (show ¬ bitI s k = true by rw [h]; decide),List.filter_nil,List.append_nil]
 rfl
theorem rowsTo_zero (c:List Df) (q:Qy) (s:Int):rowsTo c q s 0 = []:=rfl
theorem rowsTo_len (c:List Df) (q:Qy) (s:Int) (k:Nat):(rowsTo c q s k).length ≤ k:=by
 rw [rowsTo,List.length_map]
 exact Nat.le_trans (List.length_filter_le _ _) (by rw [upto_len]; omega)
theorem rowsL_in {c:List Df} {q:Qy} (h:q.may c = true) (s:Int):∀ x ∈ rowsL c q s,In64 x:=by
 intro x hx
 rw [rowsL,List.mem_map] at hx
 obtain ⟨o,ho,rfl⟩:=hx
 rw [List.mem_filter,upto_mem] at ho
 have:=base_range h ho.1.1 (by omega)
 unfold In64
 omega
theorem max_one (a:Int):(if 1 < a then a else 1) = max 1 a:=by
 split <;> omega
theorem Rows_ok (c:List Df) (hcl:c.length ≤ 1000000) (q:Qy) (hq:q.Ok) (s:Int):Quiet Go.Proofs.Tryz.prog 24 [.agg [.sl (c.map encD)], .agg (encQ q), .int s] (.int (rowsQ c q s)):=by
 have hbase:=fun o=>Base_ok c hcl q hq o
 refine quiet_of (rs:=#[.tmp 6]) Go.Proofs.Tryz.func24 rfl rfl rfl mixed rfl rfl fun H hs=>?_
 simp -implicitDefEqProofs only [push_cast,Nat.reduceAdd,Nat.reduceSub,Nat.reduceMul,Nat.reduceLT,Nat.reduceLeDiff,Nat.reduceEqDiff,Nat.reduceBEq,reduceCtorEq,reduceIte,Int.reduceLE,Int.reduceLT,Int.reduceNeg,Int.reduceToNat,encQ]
 refine callq (MayQ_ok c hcl q hq) ?_
 cases hm:q.may c
 ·have h0:rowsQ c q s = 0:=by rw [rowsQ,hm]; rfl
  rw [h0]
  simp -implicitDefEqProofs only [push_cast,Nat.reduceAdd,Nat.reduceSub,Nat.reduceMul,Nat.reduceLT,Nat.reduceLeDiff,Nat.reduceEqDiff,Nat.reduceBEq,reduceCtorEq,reduceIte,Int.reduceLE,Int.reduceLT,Int.reduceNeg,Int.reduceToNat,encQ]
 obtain ⟨hc,ho1,ho4,hot,hp6,_⟩:=may_split hm
 have hfw:=fewer_ok q hq (by omega) s
 have hfr:=fewer_pos q s
 have hti:=times_ok (rowsL c q s) (by rw [rowsL,List.length_map]; exact Nat.le_trans (List.length_filter_le _ _) (by rw [upto_len]; omega)) (rowsL_in hm s)
 have htr:=times_range (rowsL c q s)
 simp only [encQ] at hbase hfw
 simp -implicitDefEqProofs only [push_cast,Nat.reduceAdd,Nat.reduceSub,Nat.reduceMul,Nat.reduceLT,Nat.reduceLeDiff,Nat.reduceEqDiff,Nat.reduceBEq,reduceCtorEq,reduceIte,Int.reduceLE,Int.reduceLT,Int.reduceNeg,Int.reduceToNat,encQ]
 refine loop_at hs (σ:=Nat) (fun i=>i ≤ q.occ.length) (fun i=>q.occ.length - i)
  (fun i=>[(16, .int i),(15, .int q.occ.length),(2, .int s),(3, .ptr (H.nxt + 0) 1 0 0),(4, .ptr (H.nxt + 1) 6 0 0),(7, .rsl (H.nxt + 2) 1 0 (rowsTo c q s i).length)]) (fun i=>[some (.cells 1 [[.sl (c.map encD)]] 0),some (.cells 6 [encQ q] 0),some (.cells 1 (rowI (rowsTo c q s i)) 0)]) [some 0,some 1,none] 0 (by omega) rfl ?_ ?_ ?_
 ·(try simp -implicitDefEqProofs only [push_cast,Nat.reduceAdd,Nat.reduceSub,Nat.reduceMul,Nat.reduceLT,Nat.reduceLeDiff,Nat.reduceEqDiff,Nat.reduceBEq,reduceCtorEq,reduceIte,Int.reduceLE,Int.reduceLT,Int.reduceNeg,Int.reduceToNat,rowsTo_zero,rowI_nil,encDs_pure,encEs_pure,encIs_pure,encQ])
 ·(try simp -implicitDefEqProofs only [push_cast,Nat.reduceAdd,Nat.reduceSub,Nat.reduceMul,Nat.reduceLT,Nat.reduceLeDiff,Nat.reduceEqDiff,Nat.reduceBEq,reduceCtorEq,reduceIte,Int.reduceLE,Int.reduceLT,Int.reduceNeg,Int.reduceToNat,rowsTo_zero,rowI_nil,encDs_pure,encEs_pure,encIs_pure,encQ])
 intro i hi2
 have hlen:=rowsTo_len c q s i
 by_cases hi:i < q.occ.length
 ·have hi':((i:Int) < (q.occ.length:Int)) = True:=by simp; omega
  have hi0:(0 ≤ (i:Int)) = True:=by simp
  have hbit:=has_bit s i (by omega)
  have hbr:baseR c q i = baseQ c q i:=if_pos ⟨hm,by omega,by omega⟩
  have hb:=hbase i (by unfold In64; omega)
  rw [hbr] at hb
  simp -implicitDefEqProofs only [push_cast,Nat.reduceAdd,Nat.reduceSub,Nat.reduceMul,Nat.reduceLT,Nat.reduceLeDiff,Nat.reduceEqDiff,Nat.reduceBEq,reduceCtorEq,reduceIte,Int.reduceLE,Int.reduceLT,Int.reduceNeg,Int.reduceToNat,hi',hi0,hbit,encQ]
  refine ⟨fun h=>callq hb ?_,fun h=>?_⟩
  ·simp -implicitDefEqProofs only [push_cast,Nat.reduceAdd,Nat.reduceSub,Nat.reduceMul,Nat.reduceLT,Nat.reduceLeDiff,Nat.reduceEqDiff,Nat.reduceBEq,reduceCtorEq,reduceIte,Int.reduceLE,Int.reduceLT,Int.reduceNeg,Int.reduceToNat,encQ]
   rw [wrap64 (n:=(i:Int) + 1) (by omega) (by omega)]
   refine ⟨by omega, ?_⟩
   refine next_at [some 0,some 1,some 4] (i + 1) (by omega) (by omega) rfl ?_ ?_
   ·(try simp -implicitDefEqProofs only [push_cast,Nat.reduceAdd,Nat.reduceSub,Nat.reduceMul,Nat.reduceLT,Nat.reduceLeDiff,Nat.reduceEqDiff,Nat.reduceBEq,reduceCtorEq,reduceIte,Int.reduceLE,Int.reduceLT,Int.reduceNeg,Int.reduceToNat,rowsTo_yes c q s i h,encDs_pure,encEs_pure,encIs_pure,encQ])
   ·(try simp -implicitDefEqProofs only [push_cast,Nat.reduceAdd,Nat.reduceSub,Nat.reduceMul,Nat.reduceLT,Nat.reduceLeDiff,Nat.reduceEqDiff,Nat.reduceBEq,reduceCtorEq,reduceIte,Int.reduceLE,Int.reduceLT,Int.reduceNeg,Int.reduceToNat,rowsTo_yes c q s i h,take_rowI _ _ (Nat.le_refl _),snocI,rowI_pure,rowI_one,encDs_pure,encEs_pure,encIs_pure,encQ])
  ·rw [wrap64 (n:=(i:Int) + 1) (by omega) (by omega)]
   refine next_at [some 0,some 1,some 2] (i + 1) (by omega) (by omega) rfl ?_ ?_
   ·(try simp -implicitDefEqProofs only [push_cast,Nat.reduceAdd,Nat.reduceSub,Nat.reduceMul,Nat.reduceLT,Nat.reduceLeDiff,Nat.reduceEqDiff,Nat.reduceBEq,reduceCtorEq,reduceIte,Int.reduceLE,Int.reduceLT,Int.reduceNeg,Int.reduceToNat,rowsTo_no c q s i h,encDs_pure,encEs_pure,encIs_pure,encQ])
   ·(try simp -implicitDefEqProofs only [push_cast,Nat.reduceAdd,Nat.reduceSub,Nat.reduceMul,Nat.reduceLT,Nat.reduceLeDiff,Nat.reduceEqDiff,Nat.reduceBEq,reduceCtorEq,reduceIte,Int.reduceLE,Int.reduceLT,Int.reduceNeg,Int.reduceToNat,rowsTo_no c q s i h,rowI_pure,rowI_one,encDs_pure,encEs_pure,encIs_pure,encQ])
 ·have hi':((i:Int) < (q.occ.length:Int)) = False:=by simp; omega
  obtain rfl:i = q.occ.length:=by omega
  have hrl:rowsTo c q s q.occ.length = rowsL c q s:=rfl
  simp -implicitDefEqProofs only [push_cast,Nat.reduceAdd,Nat.reduceSub,Nat.reduceMul,Nat.reduceLT,Nat.reduceLeDiff,Nat.reduceEqDiff,Nat.reduceBEq,reduceCtorEq,reduceIte,Int.reduceLE,Int.reduceLT,Int.reduceNeg,Int.reduceToNat,hi',hrl,encQ]
  refine areg_wk hs 8 [(7, .sl ((rowsL c q s).map encI)),(4, .ptr (H.nxt + 1) 6 0 0),(2, .int s)] [none,some (.cells 6 [encQ q] 0),none] (by kernel_rfl) (by kernel_rfl) ?_ ?_ ?_
  ·(try simp -implicitDefEqProofs only [push_cast,Nat.reduceAdd,Nat.reduceSub,Nat.reduceMul,Nat.reduceLT,Nat.reduceLeDiff,Nat.reduceEqDiff,Nat.reduceBEq,reduceCtorEq,reduceIte,Int.reduceLE,Int.reduceLT,Int.reduceNeg,Int.reduceToNat,encDs_pure,encEs_pure,encIs_pure,encQ,take_rowI _ _ (Nat.le_refl _)])
  ·(try simp -implicitDefEqProofs only [push_cast,Nat.reduceAdd,Nat.reduceSub,Nat.reduceMul,Nat.reduceLT,Nat.reduceLeDiff,Nat.reduceEqDiff,Nat.reduceBEq,reduceCtorEq,reduceIte,Int.reduceLE,Int.reduceLT,Int.reduceNeg,Int.reduceToNat,encDs_pure,encEs_pure,encIs_pure,encQ,take_rowI _ _ (Nat.le_refl _)])
  simp -implicitDefEqProofs only [push_cast,Nat.reduceAdd,Nat.reduceSub,Nat.reduceMul,Nat.reduceLT,Nat.reduceLeDiff,Nat.reduceEqDiff,Nat.reduceBEq,reduceCtorEq,reduceIte,Int.reduceLE,Int.reduceLT,Int.reduceNeg,Int.reduceToNat,encQ]
  refine ahdq hti ?_
  simp -implicitDefEqProofs only [push_cast,Nat.reduceAdd,Nat.reduceSub,Nat.reduceMul,Nat.reduceLT,Nat.reduceLeDiff,Nat.reduceEqDiff,Nat.reduceBEq,reduceCtorEq,reduceIte,Int.reduceLE,Int.reduceLT,Int.reduceNeg,Int.reduceToNat,encQ]
  refine ahdq hfw ?_
  simp -implicitDefEqProofs only [push_cast,Nat.reduceAdd,Nat.reduceSub,Nat.reduceMul,Nat.reduceLT,Nat.reduceLeDiff,Nat.reduceEqDiff,Nat.reduceBEq,reduceCtorEq,reduceIte,Int.reduceLE,Int.reduceLT,Int.reduceNeg,Int.reduceToNat,encQ]
  have hdv:0 ≤ times (rowsL c q s) / q.fewer s ∧ times (rowsL c q s) / q.fewer s ≤ times (rowsL c q s):=⟨div_nonneg' htr.1 hfr,div_le_self' htr.1 hfr⟩
  have hcap:capN = 1099511627776:=rfl
  refine ⟨by omega, ?_⟩
  rw [Int.tdiv_eq_ediv_of_nonneg htr.1,wrap64 (by omega) (by omega),rowsQ,if_pos hm]
  exact max_one _
end
section
attribute [local push_cast] encE_mk encE_take encE_len encV encE_one encEs_pure encE_pure
theorem shift_succ (s:Int) (i:Nat):bshr .i64 (s / 2 ^ i) 1 = s / 2 ^ (i + 1):=by
 rw [bshr_one,Int.pow_succ,Int.ediv_ediv_of_nonneg (Int.le_of_lt (Int.pow_pos (by omega)))]
theorem Bit_ok (s:Int) (o:Nat) (ho:o ≤ 1000):Quiet Go.Proofs.Tryz.prog 138 [.int s, .int o] (.bool (bitI s o)):=by
 refine quiet_of (rs:=#[.tmp 4]) Go.Proofs.Tryz.func138 rfl rfl rfl mixed rfl rfl fun H hs=>?_
 simp -implicitDefEqProofs only [push_cast,Nat.reduceAdd,Nat.reduceSub,Nat.reduceMul,Nat.reduceLT,Nat.reduceLeDiff,Nat.reduceEqDiff,Nat.reduceBEq,reduceCtorEq,reduceIte,Int.reduceLE,Int.reduceLT,Int.reduceNeg,Int.reduceToNat]
 refine loop_rule hs (σ:=Nat) (fun i=>i ≤ o) (fun i=>o - i)
  (fun i=>[(0, .int (s / 2 ^ i)),(1, .int o),(5, .int i)]) (fun _=>[]) 0 (by omega) ?_ ?_ ?_
 ·(try simp -implicitDefEqProofs only [push_cast,Nat.reduceAdd,Nat.reduceSub,Nat.reduceMul,Nat.reduceLT,Nat.reduceLeDiff,Nat.reduceEqDiff,Nat.reduceBEq,reduceCtorEq,reduceIte,Int.reduceLE,Int.reduceLT,Int.reduceNeg,Int.reduceToNat])
  rw [Int.pow_zero,Int.ediv_one]
 ·(try simp -implicitDefEqProofs only [push_cast,Nat.reduceAdd,Nat.reduceSub,Nat.reduceMul,Nat.reduceLT,Nat.reduceLeDiff,Nat.reduceEqDiff,Nat.reduceBEq,reduceCtorEq,reduceIte,Int.reduceLE,Int.reduceLT,Int.reduceNeg,Int.reduceToNat])
 ·rintro i h2
  by_cases hi:i < o
  ·have hi':((i:Int) < (o:Int)) = True:=by simp; omega
   simp -implicitDefEqProofs only [push_cast,Nat.reduceAdd,Nat.reduceSub,Nat.reduceMul,Nat.reduceLT,Nat.reduceLeDiff,Nat.reduceEqDiff,Nat.reduceBEq,reduceCtorEq,reduceIte,Int.reduceLE,Int.reduceLT,Int.reduceNeg,Int.reduceToNat,hi']
   rw [wrap64 (n:=(i:Int) + 1) (by omega) (by omega),shift_succ]
   refine next_intro (i + 1) (by omega) (by omega) ?_ ?_
   ·(try simp -implicitDefEqProofs only [push_cast,Nat.reduceAdd,Nat.reduceSub,Nat.reduceMul,Nat.reduceLT,Nat.reduceLeDiff,Nat.reduceEqDiff,Nat.reduceBEq,reduceCtorEq,reduceIte,Int.reduceLE,Int.reduceLT,Int.reduceNeg,Int.reduceToNat])
   ·(try simp -implicitDefEqProofs only [push_cast,Nat.reduceAdd,Nat.reduceSub,Nat.reduceMul,Nat.reduceLT,Nat.reduceLeDiff,Nat.reduceEqDiff,Nat.reduceBEq,reduceCtorEq,reduceIte,Int.reduceLE,Int.reduceLT,Int.reduceNeg,Int.reduceToNat])
  ·have hi':((i:Int) < (o:Int)) = False:=by simp; omega
   obtain rfl:i = o:=by omega
   simp -implicitDefEqProofs only [push_cast,Nat.reduceAdd,Nat.reduceSub,Nat.reduceMul,Nat.reduceLT,Nat.reduceLeDiff,Nat.reduceEqDiff,Nat.reduceBEq,reduceCtorEq,reduceIte,Int.reduceLE,Int.reduceLT,Int.reduceNeg,Int.reduceToNat,hi']
   (try simp -implicitDefEqProofs only [push_cast,Nat.reduceAdd,Nat.reduceSub,Nat.reduceMul,Nat.reduceLT,Nat.reduceLeDiff,Nat.reduceEqDiff,Nat.reduceBEq,reduceCtorEq,reduceIte,Int.reduceLE,Int.reduceLT,Int.reduceNeg,Int.reduceToNat])
   rw [band_one]
   rfl
theorem Place_ok (l:List Int) (hl:l.length ≤ 1000000) (x:Int):Quiet Go.Proofs.Tryz.prog 101 [.sl (l.map encI), .int x] (.int (idx (fun c=>decide (x = c)) l)):=by
 refine quiet_of (rs:=#[.tmp 4]) Go.Proofs.Tryz.func101 rfl rfl rfl mixed rfl rfl fun H hs=>?_
 simp -implicitDefEqProofs only [push_cast,Nat.reduceAdd,Nat.reduceSub,Nat.reduceMul,Nat.reduceLT,Nat.reduceLeDiff,Nat.reduceEqDiff,Nat.reduceBEq,reduceCtorEq,reduceIte,Int.reduceLE,Int.reduceLT,Int.reduceNeg,Int.reduceToNat]
 refine loop_rule hs (σ:=Nat) (fun i=>i ≤ l.length ∧ ∀ (j:Nat) (h:j < l.length),j < i → decide (x = l[j]) = false) (fun i=>l.length - i)
  (fun i=>[(0, .sl (l.map encI)),(1, .int x),(5, .int i)]) (fun _=>[]) 0 ⟨by omega,fun j _ h=>by omega⟩ ?_ ?_ ?_
 ·(try simp -implicitDefEqProofs only [push_cast,Nat.reduceAdd,Nat.reduceSub,Nat.reduceMul,Nat.reduceLT,Nat.reduceLeDiff,Nat.reduceEqDiff,Nat.reduceBEq,reduceCtorEq,reduceIte,Int.reduceLE,Int.reduceLT,Int.reduceNeg,Int.reduceToNat,encIs_pure])
 ·(try simp -implicitDefEqProofs only [push_cast,Nat.reduceAdd,Nat.reduceSub,Nat.reduceMul,Nat.reduceLT,Nat.reduceLeDiff,Nat.reduceEqDiff,Nat.reduceBEq,reduceCtorEq,reduceIte,Int.reduceLE,Int.reduceLT,Int.reduceNeg,Int.reduceToNat])
 ·rintro i ⟨h2,h3⟩
  by_cases hi:i < l.length
  ·have hi':((i:Int) < (l.length:Int)) = True:=by simp; omega
   have hi0:(0 ≤ (i:Int)) = True:=by simp
   simp -implicitDefEqProofs only [push_cast,Nat.reduceAdd,Nat.reduceSub,Nat.reduceMul,Nat.reduceLT,Nat.reduceLeDiff,Nat.reduceEqDiff,Nat.reduceBEq,reduceCtorEq,reduceIte,Int.reduceLE,Int.reduceLT,Int.reduceNeg,Int.reduceToNat,hi',hi0,encIs_get l i hi,encI]
   refine ⟨fun h=>?_,fun h=>?_⟩
   ·(try simp -implicitDefEqProofs only [push_cast,Nat.reduceAdd,Nat.reduceSub,Nat.reduceMul,Nat.reduceLT,Nat.reduceLeDiff,Nat.reduceEqDiff,Nat.reduceBEq,reduceCtorEq,reduceIte,Int.reduceLE,Int.reduceLT,Int.reduceNeg,Int.reduceToNat])
    exact (idx_hit (p:=fun c=>decide (x = c)) hi h3 (by simpa using h.symm)).symm
   ·rw [wrap64 (n:=(i:Int) + 1) (by omega) (by omega)]
    refine next_intro (i + 1) ⟨by omega,fun j hj hji=>?_⟩ (by omega) ?_ ?_
    ·rcases Nat.lt_or_ge j i with h4 | h4
     ·simpa using h3 j hj h4
     ·obtain rfl:j = i:=by omega
      exact fun e=>h e.symm
    ·(try simp -implicitDefEqProofs only [push_cast,Nat.reduceAdd,Nat.reduceSub,Nat.reduceMul,Nat.reduceLT,Nat.reduceLeDiff,Nat.reduceEqDiff,Nat.reduceBEq,reduceCtorEq,reduceIte,Int.reduceLE,Int.reduceLT,Int.reduceNeg,Int.reduceToNat,encIs_pure])
    ·(try simp -implicitDefEqProofs only [push_cast,Nat.reduceAdd,Nat.reduceSub,Nat.reduceMul,Nat.reduceLT,Nat.reduceLeDiff,Nat.reduceEqDiff,Nat.reduceBEq,reduceCtorEq,reduceIte,Int.reduceLE,Int.reduceLT,Int.reduceNeg,Int.reduceToNat])
  ·have hi':((i:Int) < (l.length:Int)) = False:=by simp; omega
   simp -implicitDefEqProofs only [push_cast,Nat.reduceAdd,Nat.reduceSub,Nat.reduceMul,Nat.reduceLT,Nat.reduceLeDiff,Nat.reduceEqDiff,Nat.reduceBEq,reduceCtorEq,reduceIte,Int.reduceLE,Int.reduceLT,Int.reduceNeg,Int.reduceToNat,hi']
   (try simp -implicitDefEqProofs only [push_cast,Nat.reduceAdd,Nat.reduceSub,Nat.reduceMul,Nat.reduceLT,Nat.reduceLeDiff,Nat.reduceEqDiff,Nat.reduceBEq,reduceCtorEq,reduceIte,Int.reduceLE,Int.reduceLT,Int.reduceNeg,Int.reduceToNat])
   exact (idx_miss (p:=fun c=>decide (x = c)) fun j hj=>h3 j hj (by omega)).symm
theorem partS_ok (a s:Int):Quiet Go.Proofs.Tryz.prog 169 [.int a, .int s] (.bool (holdsI s a)):=by
 refine quiet_of (rs:=#[.tmp 4]) Go.Proofs.Tryz.func169 rfl rfl rfl mixed rfl rfl fun H hs=>?_
 simp -implicitDefEqProofs only [push_cast,Nat.reduceAdd,Nat.reduceSub,Nat.reduceMul,Nat.reduceLT,Nat.reduceLeDiff,Nat.reduceEqDiff,Nat.reduceBEq,reduceCtorEq,reduceIte,Int.reduceLE,Int.reduceLT,Int.reduceNeg,Int.reduceToNat]
 refine loop_rule hs (σ:=Nat) (fun i=>i ≤ 4 ∧ ∀ j,j < i → bitI a j = true → bitI s j = true) (fun i=>4 - i)
  (fun i=>[(0, .int a),(1, .int s),(5, .int i)]) (fun _=>[]) 0 ⟨by omega,fun j h=>by omega⟩ ?_ ?_ ?_
 ·(try simp -implicitDefEqProofs only [push_cast,Nat.reduceAdd,Nat.reduceSub,Nat.reduceMul,Nat.reduceLT,Nat.reduceLeDiff,Nat.reduceEqDiff,Nat.reduceBEq,reduceCtorEq,reduceIte,Int.reduceLE,Int.reduceLT,Int.reduceNeg,Int.reduceToNat])
 ·(try simp -implicitDefEqProofs only [push_cast,Nat.reduceAdd,Nat.reduceSub,Nat.reduceMul,Nat.reduceLT,Nat.reduceLeDiff,Nat.reduceEqDiff,Nat.reduceBEq,reduceCtorEq,reduceIte,Int.reduceLE,Int.reduceLT,Int.reduceNeg,Int.reduceToNat])
 ·rintro i ⟨h2,h3⟩
  by_cases hi:i < 4
  ·have hi':((i:Int) < 4) = True:=by simp; omega
   simp -implicitDefEqProofs only [push_cast,Nat.reduceAdd,Nat.reduceSub,Nat.reduceMul,Nat.reduceLT,Nat.reduceLeDiff,Nat.reduceEqDiff,Nat.reduceBEq,reduceCtorEq,reduceIte,Int.reduceLE,Int.reduceLT,Int.reduceNeg,Int.reduceToNat,hi']
   refine callq (Bit_ok a i (by omega)) ?_
   simp -implicitDefEqProofs only [push_cast,Nat.reduceAdd,Nat.reduceSub,Nat.reduceMul,Nat.reduceLT,Nat.reduceLeDiff,Nat.reduceEqDiff,Nat.reduceBEq,reduceCtorEq,reduceIte,Int.reduceLE,Int.reduceLT,Int.reduceNeg,Int.reduceToNat]
   refine callq (Bit_ok s i (by omega)) ?_
   simp -implicitDefEqProofs only [push_cast,Nat.reduceAdd,Nat.reduceSub,Nat.reduceMul,Nat.reduceLT,Nat.reduceLeDiff,Nat.reduceEqDiff,Nat.reduceBEq,reduceCtorEq,reduceIte,Int.reduceLE,Int.reduceLT,Int.reduceNeg,Int.reduceToNat]
   refine ⟨fun h=>?_,fun h=>?_⟩
   ·(try simp -implicitDefEqProofs only [push_cast,Nat.reduceAdd,Nat.reduceSub,Nat.reduceMul,Nat.reduceLT,Nat.reduceLeDiff,Nat.reduceEqDiff,Nat.reduceBEq,reduceCtorEq,reduceIte,Int.reduceLE,Int.reduceLT,Int.reduceNeg,Int.reduceToNat])
    simp only [Bool.and_eq_true,Bool.not_eq_true'] at h
    symm
    rw [Bool.eq_false_iff]
    intro hh
    have:=(holdsI_iff s a).1 hh i hi h.1
    rw [this] at h
    cases h.2
   ·rw [wrap64 (n:=(i:Int) + 1) (by omega) (by omega)]
    refine next_intro (i + 1) ⟨by omega,fun j hj ha=>?_⟩ (by omega) ?_ ?_
    ·rcases Nat.lt_or_ge j i with h4 | h4
     ·exact h3 j h4 ha
     ·obtain rfl:j = i:=by omega
      rw [ha] at h
      simpa using h
    ·(try simp -implicitDefEqProofs only [push_cast,Nat.reduceAdd,Nat.reduceSub,Nat.reduceMul,Nat.reduceLT,Nat.reduceLeDiff,Nat.reduceEqDiff,Nat.reduceBEq,reduceCtorEq,reduceIte,Int.reduceLE,Int.reduceLT,Int.reduceNeg,Int.reduceToNat])
    ·(try simp -implicitDefEqProofs only [push_cast,Nat.reduceAdd,Nat.reduceSub,Nat.reduceMul,Nat.reduceLT,Nat.reduceLeDiff,Nat.reduceEqDiff,Nat.reduceBEq,reduceCtorEq,reduceIte,Int.reduceLE,Int.reduceLT,Int.reduceNeg,Int.reduceToNat])
  ·have hi':((i:Int) < 4) = False:=by simp; omega
   simp -implicitDefEqProofs only [push_cast,Nat.reduceAdd,Nat.reduceSub,Nat.reduceMul,Nat.reduceLT,Nat.reduceLeDiff,Nat.reduceEqDiff,Nat.reduceBEq,reduceCtorEq,reduceIte,Int.reduceLE,Int.reduceLT,Int.reduceNeg,Int.reduceToNat,hi']
   (try simp -implicitDefEqProofs only [push_cast,Nat.reduceAdd,Nat.reduceSub,Nat.reduceMul,Nat.reduceLT,Nat.reduceLeDiff,Nat.reduceEqDiff,Nat.reduceBEq,reduceCtorEq,reduceIte,Int.reduceLE,Int.reduceLT,Int.reduceNeg,Int.reduceToNat])
   symm
   rw [holdsI_iff]
   exact fun j hj=>h3 j (by omega)
end
section
attribute [local push_cast] encE_mk encE_take encE_len encV encE_one encEs_pure encE_pure
def stepN (n x:Int):Int:=if capN < (if capN / x < n then 1 else n) * x then 1 else (if capN / x < n then 1 else n) * x
def stepO (n x:Int) (o:Bool):Bool:=o || decide (capN / x < n) || decide (capN < (if capN / x < n then 1 else n) * x)
def timesS:Int → Bool → List Int → Int × Bool
 | n,o,[]=>(n,o)
 | n,o,x :: l=>timesS (stepN n x) (stepO n x o) l
theorem timesS_snoc (l:List Int) (x n:Int) (o:Bool):timesS n o (l ++ [x]) = (stepN (timesS n o l).1 x,stepO (timesS n o l).1 x (timesS n o l).2):=by
 induction l generalizing n o with
 | nil=>rfl
 | cons y l ih=>rw [List.cons_append,timesS,timesS,ih]
theorem timesS_range:∀ (l:List Int) (n:Int) (o:Bool),posL l = true → 1 ≤ n → n ≤ capN → 1 ≤ (timesS n o l).1 ∧ (timesS n o l).1 ≤ capN
 | [],n,o,_,h0,h1=>⟨h0,h1⟩
 | x :: l,n,o,hp,h0,h1=>by
  simp only [posL,List.all_cons,Bool.and_eq_true,decide_eq_true_eq] at hp
  rw [timesS]
  have hs:1 ≤ stepN n x ∧ stepN n x ≤ capN:=by
   unfold stepN
   have hm:1 ≤ (if capN / x < n then 1 else n) * x:=by
    split
    ·omega
    ·have:=mul_ge (a:=n) (b:=x) (by omega) hp.1
     omega
   have hc:(1:Int) ≤ capN:=by decide
   generalize (if capN / x < n then 1 else n) * x = m at hm ⊢
   split <;> omega
  exact timesS_range l _ _ hp.2 hs.1 hs.2
theorem timesD_S:∀ (l:List Int) (n:Int) (o:Bool),timesD n o l = if posL l then (if (timesS n o l).2 then capN else (timesS n o l).1) else 0
 | [],n,o=>by rw [timesD,timesS]; rfl
 | x :: l,n,o=>by
  rw [timesD,timesS]
  by_cases hx:x ≤ 0
  ·rw [if_pos hx,if_neg]
   simp only [posL,List.all_cons,Bool.and_eq_true,decide_eq_true_eq]
   omega
  ·rw [if_neg hx]
   have hp:posL (x :: l) = posL l:=by
    simp only [posL,List.all_cons,decide_eq_true (show 0 < x by omega),Bool.true_and]
   rw [hp]
   exact timesD_S l _ _
theorem mul_small {n x:Int} (h0:1 ≤ n) (hx:0 < x) (hx1:x ≤ 9223372036854775807) (h:¬ capN / x < n):n * x ≤ capN:=by
 have hdiv:capN / x < n ↔ capN < n * x:=Int.ediv_lt_iff_lt_mul hx
 have:=mt hdiv.2 h
 omega
theorem TimesR_ok (l:List Int) (hl:l.length ≤ 1000000) (hin:∀ x ∈ l,In64 x):Quiet Go.Proofs.Tryz.prog 141 [.sl (l.map encI)] (.int (times l)):=by
 rw [← timesD_times,timesD_S]
 refine quiet_of (rs:=#[.tmp 2]) Go.Proofs.Tryz.func141 rfl rfl rfl mixed rfl rfl fun H hs=>?_
 simp -implicitDefEqProofs only [push_cast,Nat.reduceAdd,Nat.reduceSub,Nat.reduceMul,Nat.reduceLT,Nat.reduceLeDiff,Nat.reduceEqDiff,Nat.reduceBEq,reduceCtorEq,reduceIte,Int.reduceLE,Int.reduceLT,Int.reduceNeg,Int.reduceToNat]
 refine loop_rule hs (σ:=Nat) (fun i=>i ≤ l.length ∧ posL (l.take i) = true) (fun i=>l.length - i)
  (fun i=>[(0, .sl (l.map encI)),(3, .int (timesS 1 false (l.take i)).1),(4, .bool (timesS 1 false (l.take i)).2),(5, .int i)]) (fun _=>[]) 0 ⟨by omega,rfl⟩ ?_ ?_ ?_
 ·(try simp -implicitDefEqProofs only [push_cast,Nat.reduceAdd,Nat.reduceSub,Nat.reduceMul,Nat.reduceLT,Nat.reduceLeDiff,Nat.reduceEqDiff,Nat.reduceBEq,reduceCtorEq,reduceIte,Int.reduceLE,Int.reduceLT,Int.reduceNeg,Int.reduceToNat,encIs_pure])
  exact ⟨rfl,rfl⟩
 ·(try simp -implicitDefEqProofs only [push_cast,Nat.reduceAdd,Nat.reduceSub,Nat.reduceMul,Nat.reduceLT,Nat.reduceLeDiff,Nat.reduceEqDiff,Nat.reduceBEq,reduceCtorEq,reduceIte,Int.reduceLE,Int.reduceLT,Int.reduceNeg,Int.reduceToNat])
 ·rintro i ⟨h2,h3⟩
  by_cases hi:i < l.length
  ·have hi':((i:Int) < (l.length:Int)) = True:=by simp; omega
   have hi0:(0 ≤ (i:Int)) = True:=by simp
   have hc:=hin l[i] (List.getElem_mem hi)
   unfold In64 at hc
   have hsn:timesS 1 false (l.take (i + 1)) = (stepN (timesS 1 false (l.take i)).1 l[i],stepO (timesS 1 false (l.take i)).1 l[i] (timesS 1 false (l.take i)).2):=by
    rw [List.take_succ_eq_append_getElem hi,timesS_snoc]
   have hrg:=timesS_range (l.take i) 1 false h3 (by omega) (by decide)
   generalize hS:timesS 1 false (l.take i) = S at *
   obtain ⟨n,o⟩:=S
   dsimp only at hsn hrg
   simp -implicitDefEqProofs only [push_cast,Nat.reduceAdd,Nat.reduceSub,Nat.reduceMul,Nat.reduceLT,Nat.reduceLeDiff,Nat.reduceEqDiff,Nat.reduceBEq,reduceCtorEq,reduceIte,Int.reduceLE,Int.reduceLT,Int.reduceNeg,Int.reduceToNat,hi',hi0,hS,encIs_get l i hi,encI]
   refine ⟨fun h=>by rw [if_neg (posL_mem hi h)],fun h=>?_⟩
   have hx:0 < l[i]:=by omega
   have hcap:capN = 1099511627776:=rfl
   have hq:IntKind.wrap .i64 (Int.tdiv 1099511627776 l[i]) = capN / l[i]:=by
    rw [Int.tdiv_eq_ediv_of_nonneg (by omega)]
    have q1:=Int.ediv_le_self (a:=1099511627776) l[i] (by omega)
    have q2:=Int.ediv_nonneg (a:=1099511627776) (b:=l[i]) (by omega) (by omega)
    rw [wrap64 (by omega) (by omega)]
    rfl
   have h1w:IntKind.wrap .i64 (1 * l[i]) = l[i]:=by rw [Int.one_mul,wrap64 (by omega) (by omega)]
   have hpo:posL (l.take (i + 1)) = true:=by rw [posL_snoc l i hi,h3,decide_eq_true hx]; rfl
   rw [hq,h1w,wrap64 (n:=(i:Int) + 1) (by omega) (by omega)]
   refine ⟨by omega,fun hd=>⟨fun hb=>?_,fun hb=>?_⟩,fun hd=>?_⟩
   ·have e:timesS 1 false (l.take (i + 1)) = (1,true):=by
     rw [hsn,stepN,stepO,if_pos hd,Int.one_mul,if_pos (by rw [hcap]; exact hb),decide_eq_true hd]
     simp
    refine next_intro (i + 1) ⟨by omega,hpo⟩ (by omega) ?_ ?_
    ·(try simp -implicitDefEqProofs only [push_cast,Nat.reduceAdd,Nat.reduceSub,Nat.reduceMul,Nat.reduceLT,Nat.reduceLeDiff,Nat.reduceEqDiff,Nat.reduceBEq,reduceCtorEq,reduceIte,Int.reduceLE,Int.reduceLT,Int.reduceNeg,Int.reduceToNat,e,encIs_pure])
    ·(try simp -implicitDefEqProofs only [push_cast,Nat.reduceAdd,Nat.reduceSub,Nat.reduceMul,Nat.reduceLT,Nat.reduceLeDiff,Nat.reduceEqDiff,Nat.reduceBEq,reduceCtorEq,reduceIte,Int.reduceLE,Int.reduceLT,Int.reduceNeg,Int.reduceToNat])
   ·have e:timesS 1 false (l.take (i + 1)) = (l[i],true):=by
     rw [hsn,stepN,stepO,if_pos hd,Int.one_mul,if_neg (by rw [hcap]; exact hb),decide_eq_true hd]
     simp
    refine next_intro (i + 1) ⟨by omega,hpo⟩ (by omega) ?_ ?_
    ·(try simp -implicitDefEqProofs only [push_cast,Nat.reduceAdd,Nat.reduceSub,Nat.reduceMul,Nat.reduceLT,Nat.reduceLeDiff,Nat.reduceEqDiff,Nat.reduceBEq,reduceCtorEq,reduceIte,Int.reduceLE,Int.reduceLT,Int.reduceNeg,Int.reduceToNat,e,encIs_pure])
    ·(try simp -implicitDefEqProofs only [push_cast,Nat.reduceAdd,Nat.reduceSub,Nat.reduceMul,Nat.reduceLT,Nat.reduceLeDiff,Nat.reduceEqDiff,Nat.reduceBEq,reduceCtorEq,reduceIte,Int.reduceLE,Int.reduceLT,Int.reduceNeg,Int.reduceToNat])
   ·have hm:=mul_small hrg.1 hx (by omega) hd
    have hge:=mul_ge (a:=n) (b:=l[i]) (by omega) hx
    have hwn:IntKind.wrap .i64 (n * l[i]) = n * l[i]:=wrap64 (by omega) (by omega)
    rw [hwn]
    refine ⟨fun hb=>absurd hb (by omega),fun hb=>?_⟩
    have e:timesS 1 false (l.take (i + 1)) = (n * l[i],o):=by
     rw [hsn,stepN,stepO,if_neg hd,if_neg (by omega),decide_eq_false hd,decide_eq_false (by omega)]
     simp
    refine next_intro (i + 1) ⟨by omega,hpo⟩ (by omega) ?_ ?_
    ·(try simp -implicitDefEqProofs only [push_cast,Nat.reduceAdd,Nat.reduceSub,Nat.reduceMul,Nat.reduceLT,Nat.reduceLeDiff,Nat.reduceEqDiff,Nat.reduceBEq,reduceCtorEq,reduceIte,Int.reduceLE,Int.reduceLT,Int.reduceNeg,Int.reduceToNat,e,encIs_pure])
    ·(try simp -implicitDefEqProofs only [push_cast,Nat.reduceAdd,Nat.reduceSub,Nat.reduceMul,Nat.reduceLT,Nat.reduceLeDiff,Nat.reduceEqDiff,Nat.reduceBEq,reduceCtorEq,reduceIte,Int.reduceLE,Int.reduceLT,Int.reduceNeg,Int.reduceToNat])
  ·have hi':((i:Int) < (l.length:Int)) = False:=by simp; omega
   rw [List.take_of_length_le (by omega)] at h3
   simp -implicitDefEqProofs only [push_cast,Nat.reduceAdd,Nat.reduceSub,Nat.reduceMul,Nat.reduceLT,Nat.reduceLeDiff,Nat.reduceEqDiff,Nat.reduceBEq,reduceCtorEq,reduceIte,Int.reduceLE,Int.reduceLT,Int.reduceNeg,Int.reduceToNat,hi']
   rw [List.take_of_length_le (by omega),if_pos h3]
   refine ⟨fun h=>by rw [if_pos h]; rfl,fun h=>by rw [if_neg (by rw [h]; decide)]⟩
end
section
attribute [local push_cast] encE_mk encE_take encE_len encV encE_one encEs_pure encE_pure
theorem catMay_split (c:List Df):catMay c = (c.all Df.may && (decide (1 ≤ (c.length:Int)) && decide ((c.length:Int) ≤ 4))):=by
 unfold catMay
 have e1:decide ((1:Int) ≤ (c.length:Int)) = decide (1 ≤ c.length):=by rw [decide_eq_decide]; omega
 have e2:decide ((c.length:Int) ≤ 4) = decide (c.length ≤ 4):=by rw [decide_eq_decide]; omega
 rw [e1,e2,Bool.and_comm]
theorem all_snoc (c:List Df) (i:Nat) (h:i < c.length):(c.take (i + 1)).all Df.may = ((c.take i).all Df.may && c[i].may):=by
 rw [List.take_succ_eq_append_getElem h,List.all_append,List.all_cons,List.all_nil,Bool.and_true]
theorem MayC_ok (c:List Df) (hl:c.length ≤ 1000000):Quiet Go.Proofs.Tryz.prog 131 [.agg [.sl (c.map encD)]] (.bool (catMay c)):=by
 rw [catMay_split]
 refine quiet_of (rs:=#[.tmp 2]) Go.Proofs.Tryz.func131 rfl rfl rfl mixed rfl rfl fun H hs=>?_
 simp -implicitDefEqProofs only [push_cast,Nat.reduceAdd,Nat.reduceSub,Nat.reduceMul,Nat.reduceLT,Nat.reduceLeDiff,Nat.reduceEqDiff,Nat.reduceBEq,reduceCtorEq,reduceIte,Int.reduceLE,Int.reduceLT,Int.reduceNeg,Int.reduceToNat]
 refine loop_at hs (σ:=Nat) (fun i=>i ≤ c.length ∧ (c.take i).all Df.may = true) (fun i=>c.length - i)
  (fun i=>[(1, .ptr (H.nxt + 0) 1 0 0),(3, .int i)]) (fun i=>[some (.cells 1 [[.sl (c.map encD)]] 0)]) [some 0] 0 ⟨by omega,rfl⟩ rfl ?_ ?_ ?_
 ·(try simp -implicitDefEqProofs only [push_cast,Nat.reduceAdd,Nat.reduceSub,Nat.reduceMul,Nat.reduceLT,Nat.reduceLeDiff,Nat.reduceEqDiff,Nat.reduceBEq,reduceCtorEq,reduceIte,Int.reduceLE,Int.reduceLT,Int.reduceNeg,Int.reduceToNat,encDs_pure])
 ·(try simp -implicitDefEqProofs only [push_cast,Nat.reduceAdd,Nat.reduceSub,Nat.reduceMul,Nat.reduceLT,Nat.reduceLeDiff,Nat.reduceEqDiff,Nat.reduceBEq,reduceCtorEq,reduceIte,Int.reduceLE,Int.reduceLT,Int.reduceNeg,Int.reduceToNat,encDs_pure])
 rintro i ⟨h2,h3⟩
 by_cases hi:i < c.length
 ·have hi':((i:Int) < (c.length:Int)) = True:=by simp; omega
  have hi0:(0 ≤ (i:Int)) = True:=by simp
  simp -implicitDefEqProofs only [push_cast,Nat.reduceAdd,Nat.reduceSub,Nat.reduceMul,Nat.reduceLT,Nat.reduceLeDiff,Nat.reduceEqDiff,Nat.reduceBEq,reduceCtorEq,reduceIte,Int.reduceLE,Int.reduceLT,Int.reduceNeg,Int.reduceToNat,hi',hi0,encDs_get c i hi,encD]
  have hm:(decide (c[i].cols < 1) || decide (4 < c[i].cols) || decide (c[i].rows < 1) || decide (1000000 < c[i].rows)) = !c[i].may:=by
   unfold Df.may
   grind
  rw [hm]
  refine ⟨fun h=>?_,fun h=>?_⟩
  ·have hn:c.all Df.may = false:=by
    rw [Bool.eq_false_iff]
    intro ha
    rw [List.all_eq_true] at ha
    rw [ha _ (List.getElem_mem hi)] at h
    cases h
   rw [hn]
   rfl
  ·rw [wrap64 (n:=(i:Int) + 1) (by omega) (by omega)]
   refine next_at [some 0] (i + 1) ⟨by omega, ?_⟩ (by omega) rfl ?_ ?_
   ·rw [all_snoc c i hi,h3]
    simpa using h
   ·(try simp -implicitDefEqProofs only [push_cast,Nat.reduceAdd,Nat.reduceSub,Nat.reduceMul,Nat.reduceLT,Nat.reduceLeDiff,Nat.reduceEqDiff,Nat.reduceBEq,reduceCtorEq,reduceIte,Int.reduceLE,Int.reduceLT,Int.reduceNeg,Int.reduceToNat,encDs_pure])
   ·(try simp -implicitDefEqProofs only [push_cast,Nat.reduceAdd,Nat.reduceSub,Nat.reduceMul,Nat.reduceLT,Nat.reduceLeDiff,Nat.reduceEqDiff,Nat.reduceBEq,reduceCtorEq,reduceIte,Int.reduceLE,Int.reduceLT,Int.reduceNeg,Int.reduceToNat,encDs_pure])
 ·have hi':((i:Int) < (c.length:Int)) = False:=by simp; omega
  rw [List.take_of_length_le (by omega)] at h3
  simp -implicitDefEqProofs only [push_cast,Nat.reduceAdd,Nat.reduceSub,Nat.reduceMul,Nat.reduceLT,Nat.reduceLeDiff,Nat.reduceEqDiff,Nat.reduceBEq,reduceCtorEq,reduceIte,Int.reduceLE,Int.reduceLT,Int.reduceNeg,Int.reduceToNat,hi']
  rw [h3,Bool.true_and]
end
section
attribute [local push_cast] encE_mk encE_take encE_len encV encE_one encEs_pure encE_pure
theorem setTo_range (p:Nat → Bool):∀ k,k ≤ 4 → 0 ≤ setTo p k ∧ setTo p k ≤ 15:=by
 intro k hk
 have hc:k = 0 ∨ k = 1 ∨ k = 2 ∨ k = 3 ∨ k = 4:=by omega
 rcases hc with rfl | rfl | rfl | rfl | rfl <;> simp only [setTo] <;> (repeat' split) <;> omega
theorem OfR_ok (e:Ex) (hok:e.Ok) (hc:cnt e ≤ 1000000) (hm:∀ c ∈ e.cols,0 ≤ c ∧ c ≤ 15):Quiet Go.Proofs.Tryz.prog 170 [.agg (encE e)] (.int (setE e)):=by
 have hcr:=ColsR_ok e hok
 rw [colsR_eq] at hcr
 rw [setE,← setTo_four]
 have hl:=Nat.le_trans (cols_len e) hc
 have hh:hasOcc e = ofC e.cols:=rfl
 rw [hh]
 generalize e.cols = l at hcr hm hl
 refine quiet_of (rs:=#[.tmp 2]) Go.Proofs.Tryz.func170 rfl rfl rfl mixed rfl rfl fun H hs=>?_
 simp -implicitDefEqProofs only [push_cast,Nat.reduceAdd,Nat.reduceSub,Nat.reduceMul,Nat.reduceLT,Nat.reduceLeDiff,Nat.reduceEqDiff,Nat.reduceBEq,reduceCtorEq,reduceIte,Int.reduceLE,Int.reduceLT,Int.reduceNeg,Int.reduceToNat]
 refine callq hcr ?_
 simp -implicitDefEqProofs only [push_cast,Nat.reduceAdd,Nat.reduceSub,Nat.reduceMul,Nat.reduceLT,Nat.reduceLeDiff,Nat.reduceEqDiff,Nat.reduceBEq,reduceCtorEq,reduceIte,Int.reduceLE,Int.reduceLT,Int.reduceNeg,Int.reduceToNat]
 refine loop_rule hs (σ:=Nat) (fun i=>i ≤ 4) (fun i=>4 - i)
  (fun i=>[(3, .sl (l.map encI)),(4, .int (setTo (ofC l) i)),(5, .int (2 ^ i)),(6, .int i)]) (fun _=>[]) 0 (by omega) ?_ ?_ ?_
 ·(try simp -implicitDefEqProofs only [push_cast,Nat.reduceAdd,Nat.reduceSub,Nat.reduceMul,Nat.reduceLT,Nat.reduceLeDiff,Nat.reduceEqDiff,Nat.reduceBEq,reduceCtorEq,reduceIte,Int.reduceLE,Int.reduceLT,Int.reduceNeg,Int.reduceToNat,encIs_pure])
  exact ⟨rfl,rfl⟩
 ·(try simp -implicitDefEqProofs only [push_cast,Nat.reduceAdd,Nat.reduceSub,Nat.reduceMul,Nat.reduceLT,Nat.reduceLeDiff,Nat.reduceEqDiff,Nat.reduceBEq,reduceCtorEq,reduceIte,Int.reduceLE,Int.reduceLT,Int.reduceNeg,Int.reduceToNat])
 rintro i h2
 by_cases hi:i < 4
 ·have hi':((i:Int) < 4) = True:=by simp; omega
  simp -implicitDefEqProofs only [push_cast,Nat.reduceAdd,Nat.reduceSub,Nat.reduceMul,Nat.reduceLT,Nat.reduceLeDiff,Nat.reduceEqDiff,Nat.reduceBEq,reduceCtorEq,reduceIte,Int.reduceLE,Int.reduceLT,Int.reduceNeg,Int.reduceToNat,hi']
  have hsr:=setTo_range (ofC l) i (by omega)
  have hp2:(1:Int) ≤ 2 ^ i ∧ (2:Int) ^ i ≤ 8:=by
   have hcs:i = 0 ∨ i = 1 ∨ i = 2 ∨ i = 3:=by omega
   rcases hcs with rfl | rfl | rfl | rfl <;> decide
  refine loop_rule hs (σ:=Nat) (fun j=>j ≤ l.length) (fun j=>l.length - j)
   (fun j=>[(3, .sl (l.map encI)),(4, .int (setTo (ofC l) i)),(5, .int (2 ^ i)),(6, .int i),(7, .bool (ofC (l.take j) i)),(8, .int j)]) (fun _=>[]) 0 (by omega) ?_ ?_ ?_
  ·(try simp -implicitDefEqProofs only [push_cast,Nat.reduceAdd,Nat.reduceSub,Nat.reduceMul,Nat.reduceLT,Nat.reduceLeDiff,Nat.reduceEqDiff,Nat.reduceBEq,reduceCtorEq,reduceIte,Int.reduceLE,Int.reduceLT,Int.reduceNeg,Int.reduceToNat,encIs_pure])
   rfl
  ·(try simp -implicitDefEqProofs only [push_cast,Nat.reduceAdd,Nat.reduceSub,Nat.reduceMul,Nat.reduceLT,Nat.reduceLeDiff,Nat.reduceEqDiff,Nat.reduceBEq,reduceCtorEq,reduceIte,Int.reduceLE,Int.reduceLT,Int.reduceNeg,Int.reduceToNat])
  rintro j h4
  by_cases hj:j < l.length
  ·have hj':((j:Int) < (l.length:Int)) = True:=by simp; omega
   have hj0:(0 ≤ (j:Int)) = True:=by simp
   have hr:=hm l[j] (List.getElem_mem hj)
   simp -implicitDefEqProofs only [push_cast,Nat.reduceAdd,Nat.reduceSub,Nat.reduceMul,Nat.reduceLT,Nat.reduceLeDiff,Nat.reduceEqDiff,Nat.reduceBEq,reduceCtorEq,reduceIte,Int.reduceLE,Int.reduceLT,Int.reduceNeg,Int.reduceToNat,hj',hj0,encIs_get l j hj,encI]
   have hq:IntKind.wrap .i64 (Int.tdiv l[j] 4) = l[j] / 4:=by
    rw [Int.tdiv_eq_ediv_of_nonneg hr.1,wrap64 (by omega) (by omega)]
   have hst:ofC (l.take (j + 1)) i = (ofC (l.take j) i || decide (l[j] / 4 = (i:Int))):=by
    unfold ofC
    rw [List.take_succ_eq_append_getElem hj,List.any_append,List.any_cons,List.any_nil,Bool.or_false]
   rw [hq,wrap64 (n:=(j:Int) + 1) (by omega) (by omega)]
   refine ⟨fun _=>by decide, ?_⟩
   refine next_intro (j + 1) (by omega) (by omega) ?_ ?_
   ·(try simp -implicitDefEqProofs only [push_cast,Nat.reduceAdd,Nat.reduceSub,Nat.reduceMul,Nat.reduceLT,Nat.reduceLeDiff,Nat.reduceEqDiff,Nat.reduceBEq,reduceCtorEq,reduceIte,Int.reduceLE,Int.reduceLT,Int.reduceNeg,Int.reduceToNat,hst,encIs_pure])
   ·(try simp -implicitDefEqProofs only [push_cast,Nat.reduceAdd,Nat.reduceSub,Nat.reduceMul,Nat.reduceLT,Nat.reduceLeDiff,Nat.reduceEqDiff,Nat.reduceBEq,reduceCtorEq,reduceIte,Int.reduceLE,Int.reduceLT,Int.reduceNeg,Int.reduceToNat])
  ·have hj':((j:Int) < (l.length:Int)) = False:=by simp; omega
   have h5:l.take j = l:=List.take_of_length_le (by omega)
   simp -implicitDefEqProofs only [push_cast,Nat.reduceAdd,Nat.reduceSub,Nat.reduceMul,Nat.reduceLT,Nat.reduceLeDiff,Nat.reduceEqDiff,Nat.reduceBEq,reduceCtorEq,reduceIte,Int.reduceLE,Int.reduceLT,Int.reduceNeg,Int.reduceToNat,hj',h5]
   have hw1:IntKind.wrap .i64 ((2:Int) ^ i * 2) = 2 ^ (i + 1):=by rw [Int.pow_succ,wrap64 (by omega) (by omega)]
   have hw2:IntKind.wrap .i64 (setTo (ofC l) i + 2 ^ i) = setTo (ofC l) i + 2 ^ i:=wrap64 (by omega) (by omega)
   rw [hw1,hw2,wrap64 (n:=(i:Int) + 1) (by omega) (by omega)]
   refine ⟨fun h=>?_,fun h=>?_⟩
   ·have hs1:setTo (ofC l) (i + 1) = setTo (ofC l) i + 2 ^ i:=by rw [setTo,if_pos h]
    refine next_intro (i + 1) (by omega) (by omega) ?_ ?_
    ·(try simp -implicitDefEqProofs only [push_cast,Nat.reduceAdd,Nat.reduceSub,Nat.reduceMul,Nat.reduceLT,Nat.reduceLeDiff,Nat.reduceEqDiff,Nat.reduceBEq,reduceCtorEq,reduceIte,Int.reduceLE,Int.reduceLT,Int.reduceNeg,Int.reduceToNat,hs1,encIs_pure])
    ·(try simp -implicitDefEqProofs only [push_cast,Nat.reduceAdd,Nat.reduceSub,Nat.reduceMul,Nat.reduceLT,Nat.reduceLeDiff,Nat.reduceEqDiff,Nat.reduceBEq,reduceCtorEq,reduceIte,Int.reduceLE,Int.reduceLT,Int.reduceNeg,Int.reduceToNat])
   ·have hs1:setTo (ofC l) (i + 1) = setTo (ofC l) i:=by rw [setTo,if_neg (by rw [h]; decide),Int.add_zero]
    refine next_intro (i + 1) (by omega) (by omega) ?_ ?_
    ·(try simp -implicitDefEqProofs only [push_cast,Nat.reduceAdd,Nat.reduceSub,Nat.reduceMul,Nat.reduceLT,Nat.reduceLeDiff,Nat.reduceEqDiff,Nat.reduceBEq,reduceCtorEq,reduceIte,Int.reduceLE,Int.reduceLT,Int.reduceNeg,Int.reduceToNat,hs1,encIs_pure])
    ·(try simp -implicitDefEqProofs only [push_cast,Nat.reduceAdd,Nat.reduceSub,Nat.reduceMul,Nat.reduceLT,Nat.reduceLeDiff,Nat.reduceEqDiff,Nat.reduceBEq,reduceCtorEq,reduceIte,Int.reduceLE,Int.reduceLT,Int.reduceNeg,Int.reduceToNat])
 ·have hi':((i:Int) < 4) = False:=by simp; omega
  simp -implicitDefEqProofs only [push_cast,Nat.reduceAdd,Nat.reduceSub,Nat.reduceMul,Nat.reduceLT,Nat.reduceLeDiff,Nat.reduceEqDiff,Nat.reduceBEq,reduceCtorEq,reduceIte,Int.reduceLE,Int.reduceLT,Int.reduceNeg,Int.reduceToNat,hi']
  (try simp -implicitDefEqProofs only [push_cast,Nat.reduceAdd,Nat.reduceSub,Nat.reduceMul,Nat.reduceLT,Nat.reduceLeDiff,Nat.reduceEqDiff,Nat.reduceBEq,reduceCtorEq,reduceIte,Int.reduceLE,Int.reduceLT,Int.reduceNeg,Int.reduceToNat])
  have h4:i = 4:=by omega
  rw [h4]
end
section
attribute [local push_cast] encE_mk encE_take encE_len encV encE_one encEs_pure encE_pure
theorem cols_rng (e:Ex):∀ c ∈ e.cols,0 ≤ c ∧ c ≤ 15:=by
 intro c hx
 by_cases hm:e.may = true
 ·exact cols_range e (fine_of_may hm) c ((cols_mem hm c).1 hx)
 ·rw [cols_eq,if_neg hm] at hx
  cases hx
theorem OwnR_ok (q:Qy) (hq:q.Ok) (s:Int):Quiet Go.Proofs.Tryz.prog 139 [.agg (encQ q), .int s] (.sl ((q.own s).map encI)):=by
 obtain ⟨hP,hok,_⟩:=hq
 rw [Qy.own]
 refine quiet_of (rs:=#[.tmp 4]) Go.Proofs.Tryz.func139 rfl rfl rfl mixed rfl rfl fun H hs=>?_
 simp -implicitDefEqProofs only [push_cast,Nat.reduceAdd,Nat.reduceSub,Nat.reduceMul,Nat.reduceLT,Nat.reduceLeDiff,Nat.reduceEqDiff,Nat.reduceBEq,reduceCtorEq,reduceIte,Int.reduceLE,Int.reduceLT,Int.reduceNeg,Int.reduceToNat,encQ]
 refine loop_at hs (σ:=Nat) (fun i=>i ≤ q.p.length) (fun i=>q.p.length - i)
  (fun i=>[(6, .int i),(2, .ptr (H.nxt + 0) 6 0 0),(1, .int s),(5, .rsl (H.nxt + 1) 1 0 (idxF (ownT s) (q.p.take i)).length)]) (fun i=>[some (.cells 6 [encQ q] 0),some (.cells 1 (rowI (idxF (ownT s) (q.p.take i))) 0)]) [some 0,none] 0 (by omega) rfl ?_ ?_ ?_
 ·(try simp -implicitDefEqProofs only [push_cast,Nat.reduceAdd,Nat.reduceSub,Nat.reduceMul,Nat.reduceLT,Nat.reduceLeDiff,Nat.reduceEqDiff,Nat.reduceBEq,reduceCtorEq,reduceIte,Int.reduceLE,Int.reduceLT,Int.reduceNeg,Int.reduceToNat,idxF_nil,rowI_nil,List.take_zero,encEs_pure,encIs_pure,encQ])
 ·(try simp -implicitDefEqProofs only [push_cast,Nat.reduceAdd,Nat.reduceSub,Nat.reduceMul,Nat.reduceLT,Nat.reduceLeDiff,Nat.reduceEqDiff,Nat.reduceBEq,reduceCtorEq,reduceIte,Int.reduceLE,Int.reduceLT,Int.reduceNeg,Int.reduceToNat,idxF_nil,rowI_nil,List.take_zero,encEs_pure,encIs_pure,encQ])
 intro i hi2
 have hlen:=idxF_lt (ownT s) (q.p.take i)
 rw [List.length_take] at hlen
 by_cases hi:i < q.p.length
 ·have hi':((i:Int) < (q.p.length:Int)) = True:=by simp; omega
  have hi0:(0 ≤ (i:Int)) = True:=by simp
  have ho:=hok _ (List.getElem_mem hi)
  simp -implicitDefEqProofs only [push_cast,Nat.reduceAdd,Nat.reduceSub,Nat.reduceMul,Nat.reduceLT,Nat.reduceLeDiff,Nat.reduceEqDiff,Nat.reduceBEq,reduceCtorEq,reduceIte,Int.reduceLE,Int.reduceLT,Int.reduceNeg,Int.reduceToNat,hi',hi0,encEs_get q.p i hi,encQ]
  refine callq (OfR_ok _ ho.1 ho.2 (cols_rng _)) ?_
  simp -implicitDefEqProofs only [push_cast,Nat.reduceAdd,Nat.reduceSub,Nat.reduceMul,Nat.reduceLT,Nat.reduceLeDiff,Nat.reduceEqDiff,Nat.reduceBEq,reduceCtorEq,reduceIte,Int.reduceLE,Int.reduceLT,Int.reduceNeg,Int.reduceToNat]
  refine callq (partS_ok _ _) ?_
  simp -implicitDefEqProofs only [push_cast,Nat.reduceAdd,Nat.reduceSub,Nat.reduceMul,Nat.reduceLT,Nat.reduceLeDiff,Nat.reduceEqDiff,Nat.reduceBEq,reduceCtorEq,reduceIte,Int.reduceLE,Int.reduceLT,Int.reduceNeg,Int.reduceToNat]
  refine ⟨fun h=>⟨by omega, ?_⟩,fun h=>?_⟩
  ·rw [wrap64 (n:=(i:Int) + 1) (by omega) (by omega)]
   refine next_at [some 0,some 3] (i + 1) (by omega) (by omega) rfl ?_ ?_
   ·(try simp -implicitDefEqProofs only [push_cast,Nat.reduceAdd,Nat.reduceSub,Nat.reduceMul,Nat.reduceLT,Nat.reduceLeDiff,Nat.reduceEqDiff,Nat.reduceBEq,reduceCtorEq,reduceIte,Int.reduceLE,Int.reduceLT,Int.reduceNeg,Int.reduceToNat,idxF_yes (ownT s) q.p i hi h,encEs_pure,encIs_pure,encQ])
   ·(try simp -implicitDefEqProofs only [push_cast,Nat.reduceAdd,Nat.reduceSub,Nat.reduceMul,Nat.reduceLT,Nat.reduceLeDiff,Nat.reduceEqDiff,Nat.reduceBEq,reduceCtorEq,reduceIte,Int.reduceLE,Int.reduceLT,Int.reduceNeg,Int.reduceToNat,idxF_yes (ownT s) q.p i hi h,take_rowI _ _ (Nat.le_refl _),snocI,rowI_pure,rowI_one,encEs_pure,encIs_pure,encQ])
  ·rw [wrap64 (n:=(i:Int) + 1) (by omega) (by omega)]
   refine next_at [some 0,some 1] (i + 1) (by omega) (by omega) rfl ?_ ?_
   ·(try simp -implicitDefEqProofs only [push_cast,Nat.reduceAdd,Nat.reduceSub,Nat.reduceMul,Nat.reduceLT,Nat.reduceLeDiff,Nat.reduceEqDiff,Nat.reduceBEq,reduceCtorEq,reduceIte,Int.reduceLE,Int.reduceLT,Int.reduceNeg,Int.reduceToNat,idxF_no (ownT s) q.p i hi h,encEs_pure,encIs_pure,encQ])
   ·(try simp -implicitDefEqProofs only [push_cast,Nat.reduceAdd,Nat.reduceSub,Nat.reduceMul,Nat.reduceLT,Nat.reduceLeDiff,Nat.reduceEqDiff,Nat.reduceBEq,reduceCtorEq,reduceIte,Int.reduceLE,Int.reduceLT,Int.reduceNeg,Int.reduceToNat,idxF_no (ownT s) q.p i hi h,rowI_pure,rowI_one,encEs_pure,encIs_pure,encQ])
 ·have hi':((i:Int) < (q.p.length:Int)) = False:=by simp; omega
  obtain rfl:i = q.p.length:=by omega
  simp -implicitDefEqProofs only [push_cast,Nat.reduceAdd,Nat.reduceSub,Nat.reduceMul,Nat.reduceLT,Nat.reduceLeDiff,Nat.reduceEqDiff,Nat.reduceBEq,reduceCtorEq,reduceIte,Int.reduceLE,Int.reduceLT,Int.reduceNeg,Int.reduceToNat,hi',encQ]
  (try simp -implicitDefEqProofs only [push_cast,Nat.reduceAdd,Nat.reduceSub,Nat.reduceMul,Nat.reduceLT,Nat.reduceLeDiff,Nat.reduceEqDiff,Nat.reduceBEq,reduceCtorEq,reduceIte,Int.reduceLE,Int.reduceLT,Int.reduceNeg,Int.reduceToNat])
  rw [List.take_length,take_rowI _ _ (Nat.le_refl _)]
  exact sealLL_pure _ _ _ (encIs_pure _)
end
section
attribute [local push_cast] encE_mk encE_take encE_len encV encE_one encEs_pure encE_pure
theorem idx_neg (l:List Int) (x:Int):decide (idx (fun c=>decide (x = c)) l < 0) = !l.contains x:=by
 have h:=idx_cases (fun c=>decide (x = c)) l
 have h2:(0 ≤ idx (fun c=>decide (x = c)) l) ↔ l.any (fun c=>decide (x = c)) = true:=by
  unfold idx
  split
  ·rename_i h
   simp [h]
  ·rename_i h
   simp [h]
 have h3:l.any (fun c=>decide (x = c)) = l.contains x:=by
  rw [Bool.eq_iff_iff,List.any_eq_true,List.contains_iff_mem]
  constructor
  ·rintro ⟨y,hy,h⟩
   rw [decide_eq_true_eq] at h
   rw [h]; exact hy
  ·exact fun h=>⟨x,h,decide_eq_true rfl⟩
 rw [h3] at h2
 cases hc:l.contains x
 ·rw [hc] at h2
  have:¬ 0 ≤ idx (fun c=>decide (x = c)) l:=fun h=>by simpa using h2.1 h
  simp; omega
 ·rw [hc] at h2
  have:=h2.2 rfl
  simp; omega
def newR (x y l:List Int):List Int:=l.filter fun i=>!x.contains i && !y.contains i
theorem newR_yes (x y l:List Int) (i:Nat) (h:i < l.length) (hp:(!x.contains l[i] && !y.contains l[i]) = true):newR x y (l.take (i + 1)) = newR x y (l.take i) ++ [l[i]]:=by
 rw [newR,List.take_succ_eq_append_getElem h,List.filter_append,List.filter_cons,if_pos hp]
 rfl
theorem newR_no (x y l:List Int) (i:Nat) (h:i < l.length) (hp:(!x.contains l[i] && !y.contains l[i]) = false):newR x y (l.take (i + 1)) = newR x y (l.take i):=by
 rw [newR,List.take_succ_eq_append_getElem h,List.filter_append,List.filter_cons,if_neg (by rw [hp]; decide),List.filter_nil,List.append_nil]
 rfl
theorem newR_nil (x y:List Int):newR x y [] = []:=rfl
theorem NewR_ok (q:Qy) (hq:q.Ok) (a b:Int):Quiet Go.Proofs.Tryz.prog 149 [.agg (encQ q), .int a, .int b] (.sl ((q.new a b).map encI)):=by
 have ha:=OwnR_ok q hq a
 have hb:=OwnR_ok q hq b
 have hab:=OwnR_ok q hq (bor .i64 a b)
 have hP:=hq.1
 rw [← new_R]
 have hll:∀ s,(q.own s).length ≤ 1000000:=fun s=>Nat.le_trans (idxF_lt _ _) hP
 have h1:=hll a
 have h2:=hll b
 have h3:=hll (bor .i64 a b)
 generalize q.own a = x at ha h1 ⊢
 generalize q.own b = y at hb h2 ⊢
 generalize q.own (bor .i64 a b) = l at hab h3 ⊢
 change Quiet _ _ _ (.sl ((newR x y l).map encI))
 simp only [encQ] at ha hb hab
 refine quiet_of (rs:=#[.tmp 6]) Go.Proofs.Tryz.func149 rfl rfl rfl mixed rfl rfl fun H hs=>?_
 simp -implicitDefEqProofs only [push_cast,Nat.reduceAdd,Nat.reduceSub,Nat.reduceMul,Nat.reduceLT,Nat.reduceLeDiff,Nat.reduceEqDiff,Nat.reduceBEq,reduceCtorEq,reduceIte,Int.reduceLE,Int.reduceLT,Int.reduceNeg,Int.reduceToNat,encQ]
 refine callq hab ?_
 simp -implicitDefEqProofs only [push_cast,Nat.reduceAdd,Nat.reduceSub,Nat.reduceMul,Nat.reduceLT,Nat.reduceLeDiff,Nat.reduceEqDiff,Nat.reduceBEq,reduceCtorEq,reduceIte,Int.reduceLE,Int.reduceLT,Int.reduceNeg,Int.reduceToNat]
 refine callq ha ?_
 simp -implicitDefEqProofs only [push_cast,Nat.reduceAdd,Nat.reduceSub,Nat.reduceMul,Nat.reduceLT,Nat.reduceLeDiff,Nat.reduceEqDiff,Nat.reduceBEq,reduceCtorEq,reduceIte,Int.reduceLE,Int.reduceLT,Int.reduceNeg,Int.reduceToNat]
 refine callq hb ?_
 simp -implicitDefEqProofs only [push_cast,Nat.reduceAdd,Nat.reduceSub,Nat.reduceMul,Nat.reduceLT,Nat.reduceLeDiff,Nat.reduceEqDiff,Nat.reduceBEq,reduceCtorEq,reduceIte,Int.reduceLE,Int.reduceLT,Int.reduceNeg,Int.reduceToNat]
 refine loop_at hs (σ:=Nat) (fun i=>i ≤ l.length) (fun i=>l.length - i)
  (fun i=>[(11, .int i),(8, .sl (l.map encI)),(9, .sl (x.map encI)),(10, .sl (y.map encI)),(7, .rsl (H.nxt + 0) 1 0 (newR x y (l.take i)).length)]) (fun i=>[some (.cells 1 (rowI (newR x y (l.take i))) 0)]) [none] 0 (by omega) rfl ?_ ?_ ?_
 ·(try simp -implicitDefEqProofs only [push_cast,Nat.reduceAdd,Nat.reduceSub,Nat.reduceMul,Nat.reduceLT,Nat.reduceLeDiff,Nat.reduceEqDiff,Nat.reduceBEq,reduceCtorEq,reduceIte,Int.reduceLE,Int.reduceLT,Int.reduceNeg,Int.reduceToNat,newR_nil,rowI_nil,List.take_zero,encIs_pure])
 ·(try simp -implicitDefEqProofs only [push_cast,Nat.reduceAdd,Nat.reduceSub,Nat.reduceMul,Nat.reduceLT,Nat.reduceLeDiff,Nat.reduceEqDiff,Nat.reduceBEq,reduceCtorEq,reduceIte,Int.reduceLE,Int.reduceLT,Int.reduceNeg,Int.reduceToNat,newR_nil,rowI_nil,List.take_zero,encIs_pure])
 intro i hi2
 have hlen:(newR x y (l.take i)).length ≤ 1000000:=Nat.le_trans (List.length_filter_le _ _) (by rw [List.length_take]; omega)
 by_cases hi:i < l.length
 ·have hi':((i:Int) < (l.length:Int)) = True:=by simp; omega
  have hi0:(0 ≤ (i:Int)) = True:=by simp
  simp -implicitDefEqProofs only [push_cast,Nat.reduceAdd,Nat.reduceSub,Nat.reduceMul,Nat.reduceLT,Nat.reduceLeDiff,Nat.reduceEqDiff,Nat.reduceBEq,reduceCtorEq,reduceIte,Int.reduceLE,Int.reduceLT,Int.reduceNeg,Int.reduceToNat,hi',hi0,encIs_get l i hi,encI]
  refine callq (Place_ok x h1 _) ?_
  simp -implicitDefEqProofs only [push_cast,Nat.reduceAdd,Nat.reduceSub,Nat.reduceMul,Nat.reduceLT,Nat.reduceLeDiff,Nat.reduceEqDiff,Nat.reduceBEq,reduceCtorEq,reduceIte,Int.reduceLE,Int.reduceLT,Int.reduceNeg,Int.reduceToNat,idx_neg,hi',hi0,encIs_get l i hi,encI]
  refine gcallq' (.int (idx (fun c=>decide (l[i] = c)) y)) (fun h=>by simpa using h) (fun _=>Place_ok y h2 _) ?_
  simp -implicitDefEqProofs only [push_cast,Nat.reduceAdd,Nat.reduceSub,Nat.reduceMul,Nat.reduceLT,Nat.reduceLeDiff,Nat.reduceEqDiff,Nat.reduceBEq,reduceCtorEq,reduceIte,Int.reduceLE,Int.reduceLT,Int.reduceNeg,Int.reduceToNat,idx_neg,hi',hi0,encIs_get l i hi,encI]
  refine ⟨fun h=>⟨by omega, ?_⟩,fun h=>?_⟩
  ·rw [wrap64 (n:=(i:Int) + 1) (by omega) (by omega)]
   refine next_at [some 2] (i + 1) (by omega) (by omega) rfl ?_ ?_
   ·(try simp -implicitDefEqProofs only [push_cast,Nat.reduceAdd,Nat.reduceSub,Nat.reduceMul,Nat.reduceLT,Nat.reduceLeDiff,Nat.reduceEqDiff,Nat.reduceBEq,reduceCtorEq,reduceIte,Int.reduceLE,Int.reduceLT,Int.reduceNeg,Int.reduceToNat,newR_yes x y l i hi h,encIs_pure])
   ·(try simp -implicitDefEqProofs only [push_cast,Nat.reduceAdd,Nat.reduceSub,Nat.reduceMul,Nat.reduceLT,Nat.reduceLeDiff,Nat.reduceEqDiff,Nat.reduceBEq,reduceCtorEq,reduceIte,Int.reduceLE,Int.reduceLT,Int.reduceNeg,Int.reduceToNat,newR_yes x y l i hi h,take_rowI _ _ (Nat.le_refl _),snocI,rowI_pure,rowI_one])
  ·rw [wrap64 (n:=(i:Int) + 1) (by omega) (by omega)]
   refine next_at [some 0] (i + 1) (by omega) (by omega) rfl ?_ ?_
   ·(try simp -implicitDefEqProofs only [push_cast,Nat.reduceAdd,Nat.reduceSub,Nat.reduceMul,Nat.reduceLT,Nat.reduceLeDiff,Nat.reduceEqDiff,Nat.reduceBEq,reduceCtorEq,reduceIte,Int.reduceLE,Int.reduceLT,Int.reduceNeg,Int.reduceToNat,newR_no x y l i hi h,encIs_pure])
   ·(try simp -implicitDefEqProofs only [push_cast,Nat.reduceAdd,Nat.reduceSub,Nat.reduceMul,Nat.reduceLT,Nat.reduceLeDiff,Nat.reduceEqDiff,Nat.reduceBEq,reduceCtorEq,reduceIte,Int.reduceLE,Int.reduceLT,Int.reduceNeg,Int.reduceToNat,newR_no x y l i hi h,rowI_pure,rowI_one])
 ·have hi':((i:Int) < (l.length:Int)) = False:=by simp; omega
  have h5:l.take i = l:=List.take_of_length_le (by omega)
  simp -implicitDefEqProofs only [push_cast,Nat.reduceAdd,Nat.reduceSub,Nat.reduceMul,Nat.reduceLT,Nat.reduceLeDiff,Nat.reduceEqDiff,Nat.reduceBEq,reduceCtorEq,reduceIte,Int.reduceLE,Int.reduceLT,Int.reduceNeg,Int.reduceToNat,hi',h5]
  (try simp -implicitDefEqProofs only [push_cast,Nat.reduceAdd,Nat.reduceSub,Nat.reduceMul,Nat.reduceLT,Nat.reduceLeDiff,Nat.reduceEqDiff,Nat.reduceBEq,reduceCtorEq,reduceIte,Int.reduceLE,Int.reduceLT,Int.reduceNeg,Int.reduceToNat])
  rw [take_rowI _ _ (Nat.le_refl _)]
  exact sealLL_pure _ _ _ (encIs_pure _)
end
section
attribute [local push_cast] encE_mk encE_take encE_len encV encE_one encEs_pure encE_pure
theorem encDs_getN (c:List Df) (n:Nat) (h:n < c.length):(c.map encD).getD n [] = encD c[n]:=by
 rw [List.getD_eq_getElem?_getD,List.getElem?_map,List.getElem?_eq_getElem h]; rfl
theorem encDs_none (c:List Df) (n:Nat) (h:¬ n < c.length):(c.map encD).getD n [] = []:=by
 rw [List.getD_eq_getElem?_getD,List.getElem?_eq_none (by simp; omega)]; rfl
theorem column_ok (c:List Df) (hcl:c.length ≤ 1000000) (q:Qy) (hl:q.occ.length ≤ 1000000) (id:Int) (hid:In64 id):Quiet Go.Proofs.Tryz.prog 133 [.agg [.sl (c.map encD)], .agg (encQ q), .int id] (.bool (isCol c q id)):=by
 unfold In64 at hid
 refine quiet_of (rs:=#[.tmp 6]) Go.Proofs.Tryz.func133 rfl rfl rfl mixed rfl rfl fun H hs=>?_
 by_cases h0:0 ≤ id ∧ id ≤ 15
 ·obtain ⟨k,hk⟩:∃ k:Nat,id / 4 = k:=⟨(id / 4).toNat,by omega⟩
  have hq:IntKind.wrap .i64 (Int.tdiv id 4) = k:=by
   rw [Int.tdiv_eq_ediv_of_nonneg h0.1,wrap64 (by omega) (by omega),hk]
  have hm:Int.tmod id 4 = id % 4:=Int.tmod_eq_emod_of_nonneg h0.1
  have hk0:(0 ≤ (k:Int)) = True:=by simp
  by_cases hkl:k < q.occ.length
  ·have hk':((k:Int) < (q.occ.length:Int)) = True:=by simp; omega
   have hocc:q.occ.getD k (-1) = q.occ[k]:=by rw [List.getD_eq_getElem?_getD,List.getElem?_eq_getElem hkl]; rfl
   have hcond:(decide (id < 0) || decide (15 < id) || decide ((q.occ.length:Int) ≤ (k:Int))) = false:=by
    simp only [Bool.or_eq_false_iff,decide_eq_false_iff_not]; omega
   have his:isCol c q id = decide (id % 4 < tabCols c q.occ[k]):=by
    unfold isCol
    rw [decide_eq_true h0.1,decide_eq_true h0.2,hk,decide_eq_true (show (k:Int) < q.occ.length by omega),Int.toNat_natCast,hocc]
    rfl
   rw [his]
   by_cases ht:0 ≤ q.occ[k] ∧ q.occ[k] < c.length
   ·obtain ⟨t,htn⟩:∃ t:Nat,q.occ[k] = t:=⟨q.occ[k].toNat,by omega⟩
    have htl:t < c.length:=by omega
    have htab:tabCols c q.occ[k] = c[t].cols:=by
     rw [tabCols,if_pos ht,htn,Int.toNat_natCast,List.getD_eq_getElem?_getD,List.getElem?_eq_getElem htl]
     rfl
    rw [htab]
    have ht0:(0 ≤ (t:Int)) = True:=by simp
    have ht1:((t:Int) < (c.length:Int)) = True:=by simp; omega
    simp -implicitDefEqProofs only [push_cast,Nat.reduceAdd,Nat.reduceSub,Nat.reduceMul,Nat.reduceLT,Nat.reduceLeDiff,Nat.reduceEqDiff,Nat.reduceBEq,reduceCtorEq,reduceIte,Int.reduceLE,Int.reduceLT,Int.reduceNeg,Int.reduceToNat,encQ,hq,hm,hk0,hk',encIs_get q.occ k hkl,encI,htn,ht0,ht1,encDs_get c t htl,encD]
    refine ⟨fun _=>by omega,fun h=>?_,fun _=>by omega⟩
    rw [hcond] at h; cases h
   ·have hg:(decide (0 ≤ q.occ[k]) && decide (q.occ[k] < (c.length:Int))) = false:=by
     rw [Bool.eq_false_iff]
     intro h
     simp only [Bool.and_eq_true,decide_eq_true_eq] at h
     exact ht h
    have hno:decide (id % 4 < tabCols c q.occ[k]) = false:=by
     rw [tabCols,if_neg ht]; simp; omega
    rw [hno]
    by_cases hn:q.occ[k].toNat < c.length
    ·simp -implicitDefEqProofs only [push_cast,Nat.reduceAdd,Nat.reduceSub,Nat.reduceMul,Nat.reduceLT,Nat.reduceLeDiff,Nat.reduceEqDiff,Nat.reduceBEq,reduceCtorEq,reduceIte,Int.reduceLE,Int.reduceLT,Int.reduceNeg,Int.reduceToNat,encQ,hq,hm,hk0,hk',encIs_get q.occ k hkl,encI,hg,hcond,encDs_getN c _ hn,encD]
     exact ⟨fun _=>by omega,by omega⟩
    ·simp -implicitDefEqProofs only [push_cast,Nat.reduceAdd,Nat.reduceSub,Nat.reduceMul,Nat.reduceLT,Nat.reduceLeDiff,Nat.reduceEqDiff,Nat.reduceBEq,reduceCtorEq,reduceIte,Int.reduceLE,Int.reduceLT,Int.reduceNeg,Int.reduceToNat,encQ,hq,hm,hk0,hk',encIs_get q.occ k hkl,encI,hg,hcond,encDs_none c _ hn,List.getD_nil]
     refine ⟨fun _=>by omega,by omega,gskip ?_⟩
     simp -implicitDefEqProofs only [push_cast,Nat.reduceAdd,Nat.reduceSub,Nat.reduceMul,Nat.reduceLT,Nat.reduceLeDiff,Nat.reduceEqDiff,Nat.reduceBEq,reduceCtorEq,reduceIte,Int.reduceLE,Int.reduceLT,Int.reduceNeg,Int.reduceToNat]
  ·have hcond:(decide (id < 0) || decide (15 < id) || decide ((q.occ.length:Int) ≤ (k:Int))) = true:=by
    simp only [Bool.or_eq_true,decide_eq_true_eq]; omega
   have hno:isCol c q id = false:=by
    unfold isCol
    rw [hk,decide_eq_false (show ¬ (k:Int) < q.occ.length by omega)]
    simp
   simp -implicitDefEqProofs only [push_cast,Nat.reduceAdd,Nat.reduceSub,Nat.reduceMul,Nat.reduceLT,Nat.reduceLeDiff,Nat.reduceEqDiff,Nat.reduceBEq,reduceCtorEq,reduceIte,Int.reduceLE,Int.reduceLT,Int.reduceNeg,Int.reduceToNat,encQ,hq,hm,hk0,hcond]
   exact ⟨fun _=>by omega,hno.symm⟩
 ·have hcond:(decide (id < 0) || decide (15 < id)) = true:=by
   simp only [Bool.or_eq_true,decide_eq_true_eq]; omega
  have hno:isCol c q id = false:=by
   unfold isCol
   simp only [Bool.or_eq_true,decide_eq_true_eq] at hcond
   rcases hcond with h | h
   ·rw [decide_eq_false (show ¬ 0 ≤ id by omega)]; rfl
   ·rw [decide_eq_false (show ¬ id ≤ 15 by omega)]; simp
  simp -implicitDefEqProofs only [push_cast,Nat.reduceAdd,Nat.reduceSub,Nat.reduceMul,Nat.reduceLT,Nat.reduceLeDiff,Nat.reduceEqDiff,Nat.reduceBEq,reduceCtorEq,reduceIte,Int.reduceLE,Int.reduceLT,Int.reduceNeg,Int.reduceToNat,encQ,hcond]
  exact hno.symm
end
section
attribute [local push_cast] encE_mk encE_take encE_len encV encE_one encEs_pure encE_pure
def encP (p:Int × Int):List AV:=[.int p.1, .int p.2]
abbrev rowP (zs:List (Int × Int)):List (List AV):=zs.map encP
theorem rowP_nil:rowP [] = []:=rfl
theorem rowP_pure (l:List (Int × Int)):PureLL (rowP l):=by
 rw [pureLL_iff]
 simp only [rowP,List.mem_map]
 rintro _ ⟨x,_,rfl⟩
 simp [encP,PureL,Pure]
theorem rowP_one (l:List (Int × Int)):(∀ e ∈ rowP l,e.length = 2) = True:=by
 simp only [rowP,List.mem_map,eq_iff_iff,iff_true]
 rintro _ ⟨x,_,rfl⟩
 rfl
theorem take_rowP (l:List (Int × Int)) (n:Nat) (h:l.length ≤ n):List.take n (rowP l) = rowP l:=List.take_of_length_le (by simpa [rowP] using h)
theorem snocP (l:List (Int × Int)) (x y:Int):rowP l ++ [[.lit (.int .i64 x), .lit (.int .i64 y)]] = rowP (l ++ [(x,y)]):=by rw [rowP,rowP,List.map_append]; rfl
theorem encPs_get (l:List (Int × Int)) (i:Nat) (h:i < l.length):(l.map encP).getD i [] = encP l[i]:=getD_map encP l [] i h
theorem holds_col (s x:Int) (h0:0 ≤ x) (h1:x ≤ 15):holdsI s (ofBits (ofC [x])) = bitC s x:=by
 obtain ⟨k,hk⟩:∃ k:Nat,x / 4 = k:=⟨(x / 4).toNat,by omega⟩
 have hk4:k < 4:=by omega
 have hb:∀ i:Nat,i < 4 → bitI (ofBits (ofC [x])) i = decide (k = i):=fun i hi=>by
  rw [ofBits_bit _ i hi,ofC,List.any_cons,List.any_nil,Bool.or_false,hk,decide_eq_decide]; omega
 rw [bitC,hk,Int.toNat_natCast,Bool.eq_iff_iff,holdsI_iff]
 constructor
 ·intro h
  exact h k hk4 (by rw [hb k hk4]; simp)
 ·intro h i hi hx
  rw [hb i hi,decide_eq_true_eq] at hx
  exact hx ▸ h
theorem pairsF_take (a b:Int) (P:List Ex) (l:List Int) (i:Nat) (h:i < l.length):pairsF a b P (l.take (i + 1)) = pairsF a b P (l.take i) ++ pairOf a b (P.getD l[i].toNat exO):=by
 rw [List.take_succ_eq_append_getElem h,pairsF,pairsF,List.flatMap_append,List.flatMap_cons,List.flatMap_nil,List.append_nil]
theorem Pairs_ok (q:Qy) (hq:q.Ok) (a b:Int):Quiet Go.Proofs.Tryz.prog 54 [.agg (encQ q), .int a, .int b] (.sl ((q.pairs a b).map encP)):=by
 have hn:=New_ok q hq a b
 have hnl:(q.new a b).length ≤ 1000000:=Nat.le_trans (idxF_lt _ _) hq.1
 have hnm:∀ i ∈ q.new a b,0 ≤ i ∧ i < q.p.length:=fun i hi=>by rw [Qy.new,idxF_mem] at hi; omega
 rw [Qy.pairs]
 generalize q.new a b = l at hn hnl hnm ⊢
 simp only [encQ] at hn
 refine quiet_of (rs:=#[.tmp 6]) Go.Proofs.Tryz.func54 rfl rfl rfl mixed rfl rfl fun H hs=>?_
 simp -implicitDefEqProofs only [push_cast,Nat.reduceAdd,Nat.reduceSub,Nat.reduceMul,Nat.reduceLT,Nat.reduceLeDiff,Nat.reduceEqDiff,Nat.reduceBEq,reduceCtorEq,reduceIte,Int.reduceLE,Int.reduceLT,Int.reduceNeg,Int.reduceToNat,encQ]
 refine callq hn ?_
 simp -implicitDefEqProofs only [push_cast,Nat.reduceAdd,Nat.reduceSub,Nat.reduceMul,Nat.reduceLT,Nat.reduceLeDiff,Nat.reduceEqDiff,Nat.reduceBEq,reduceCtorEq,reduceIte,Int.reduceLE,Int.reduceLT,Int.reduceNeg,Int.reduceToNat,encQ]
 refine loop_at hs (σ:=Nat) (fun i=>i ≤ l.length) (fun i=>l.length - i)
  (fun i=>[(20, .int i),(19, .int l.length),(18, .sl (l.map encI)),(3, .ptr (H.nxt + 0) 6 0 0),(1, .int a),(2, .int b),(7, .rsl (H.nxt + 1) 2 0 (pairsF a b q.p (l.take i)).length)]) (fun i=>[some (.cells 6 [encQ q] 0),some (.cells 2 (rowP (pairsF a b q.p (l.take i))) 0)]) [some 0,none] 0 (by omega) rfl ?_ ?_ ?_
 ·(try simp -implicitDefEqProofs only [push_cast,Nat.reduceAdd,Nat.reduceSub,Nat.reduceMul,Nat.reduceLT,Nat.reduceLeDiff,Nat.reduceEqDiff,Nat.reduceBEq,reduceCtorEq,reduceIte,Int.reduceLE,Int.reduceLT,Int.reduceNeg,Int.reduceToNat,rowP_nil,List.take_zero,encEs_pure,encIs_pure,encQ,pairsF,List.flatMap_nil])
 ·(try simp -implicitDefEqProofs only [push_cast,Nat.reduceAdd,Nat.reduceSub,Nat.reduceMul,Nat.reduceLT,Nat.reduceLeDiff,Nat.reduceEqDiff,Nat.reduceBEq,reduceCtorEq,reduceIte,Int.reduceLE,Int.reduceLT,Int.reduceNeg,Int.reduceToNat,rowP_nil,List.take_zero,encEs_pure,encIs_pure,encQ,pairsF,List.flatMap_nil])
 intro i hi2
 by_cases hi:i < l.length
 ·have hi':((i:Int) < (l.length:Int)) = True:=by simp; omega
  have hi0:(0 ≤ (i:Int)) = True:=by simp
  obtain ⟨h0,h1⟩:=hnm _ (List.getElem_mem hi)
  obtain ⟨k,hk⟩:∃ k:Nat,l[i] = k:=⟨l[i].toNat,by omega⟩
  have hkl:k < q.p.length:=by omega
  have hk0:(0 ≤ (k:Int)) = True:=by simp
  have hk':((k:Int) < (q.p.length:Int)) = True:=by simp; omega
  have hok:=hq.2.1 _ (List.getElem_mem hkl)
  have hge:q.p.getD l[i].toNat exO = q.p[k]:=by
   rw [hk,Int.toNat_natCast,List.getD_eq_getElem?_getD,List.getElem?_eq_getElem hkl]; rfl
  have hps:=pairsF_take a b q.p l i hi
  rw [hge] at hps
  simp -implicitDefEqProofs only [push_cast,Nat.reduceAdd,Nat.reduceSub,Nat.reduceMul,Nat.reduceLT,Nat.reduceLeDiff,Nat.reduceEqDiff,Nat.reduceBEq,reduceCtorEq,reduceIte,Int.reduceLE,Int.reduceLT,Int.reduceNeg,Int.reduceToNat,hi',hi0,encIs_get l i hi,encI,hk,hk0,hk',encEs_get q.p k hkl,encQ]
  refine callq (Pair_ok _ hok.1) ?_
  simp -implicitDefEqProofs only [push_cast,Nat.reduceAdd,Nat.reduceSub,Nat.reduceMul,Nat.reduceLT,Nat.reduceLeDiff,Nat.reduceEqDiff,Nat.reduceBEq,reduceCtorEq,reduceIte,Int.reduceLE,Int.reduceLT,Int.reduceNeg,Int.reduceToNat,encQ]
  have hpl:(pairsF a b q.p (l.take i)).length ≤ 1000000:=by
   refine Nat.le_trans (flat_len _ _ fun x _=>pairOf_len _ _ _) ?_
   rw [List.length_take]; omega
  refine ⟨fun his=>?_,fun his=>?_⟩
  ·have hp0:pairOf a b q.p[k] = []:=by rw [pairOf,if_neg (by simp [his])]
   rw [hp0,List.append_nil] at hps
   rw [wrap64 (n:=(i:Int) + 1) (by omega) (by omega)]
   refine next_at [some 0,some 1] (i + 1) (by omega) (by omega) rfl ?_ ?_
   ·(try simp -implicitDefEqProofs only [push_cast,Nat.reduceAdd,Nat.reduceSub,Nat.reduceMul,Nat.reduceLT,Nat.reduceLeDiff,Nat.reduceEqDiff,Nat.reduceBEq,reduceCtorEq,reduceIte,Int.reduceLE,Int.reduceLT,Int.reduceNeg,Int.reduceToNat,hps,encEs_pure,encIs_pure,encQ])
   ·(try simp -implicitDefEqProofs only [push_cast,Nat.reduceAdd,Nat.reduceSub,Nat.reduceMul,Nat.reduceLT,Nat.reduceLeDiff,Nat.reduceEqDiff,Nat.reduceBEq,reduceCtorEq,reduceIte,Int.reduceLE,Int.reduceLT,Int.reduceNeg,Int.reduceToNat,hps,encEs_pure,encIs_pure,encQ,rowP_pure,rowP_one])
  ·obtain ⟨_,_,hx,hy,_⟩:=pair_spec his
   have hpo:pairOf a b q.p[k] = if bitC a q.p[k].pair.1 && bitC b q.p[k].pair.2.1 then [(q.p[k].pair.1,q.p[k].pair.2.1)] else if bitC a q.p[k].pair.2.1 && bitC b q.p[k].pair.1 then [(q.p[k].pair.2.1,q.p[k].pair.1)] else []:=by rw [pairOf,if_pos his]
   generalize q.p[k].pair.1 = x at hx hpo ⊢
   generalize q.p[k].pair.2.1 = y at hy hpo ⊢
   generalize pairsF a b q.p (l.take i) = ps at hps hpl ⊢
   have hlx:=holds_col a x hx.1 hx.2
   have hly:=holds_col a y hy.1 hy.2
   have hmx:=holds_col b x hx.1 hx.2
   have hmy:=holds_col b y hy.1 hy.2
   have hof:∀ z,0 ≤ z → z ≤ 15 → Quiet Go.Proofs.Tryz.prog 116 [.sl [[.int z]]] (.int (ofBits (ofC [z]))):=fun z h0 h1=>ofSet_ok [z] (by simp) (by simpa using ⟨h0,h1⟩)
   obtain ⟨c1,hc1⟩:∃ c,c = (bitC a x && bitC b y):=⟨_,rfl⟩
   obtain ⟨c2,hc2⟩:∃ c,c = (bitC a y && bitC b x):=⟨_,rfl⟩
   rw [← hc1,← hc2] at hpo
   refine loop_at hs (σ:=Nat) (fun j=>j ≤ 2 ∧ (1 ≤ j → c1 = false) ∧ (2 ≤ j → c2 = false)) (fun j=>2 - j)
    (fun j=>[(44, .int j),(43, .int 2),(42, .rsl (H.nxt + 2) 2 0 2),(20, .int i),(19, .int l.length),(18, .sl (l.map encI)),(3, .ptr (H.nxt + 0) 6 0 0),(1, .int a),(2, .int b),(7, .rsl (H.nxt + 1) 2 0 ps.length)])
    (fun j=>[some (.cells 6 [encQ q] 0),some (.cells 2 (rowP ps) 0),some (.cells 2 (rowP [(x,y),(y,x)]) 0)]) [some 0,some 1,some 2] 0 ⟨by omega,fun h=>by omega,fun h=>by omega⟩ rfl ?_ ?_ ?_
   ·(try simp -implicitDefEqProofs only [push_cast,Nat.reduceAdd,Nat.reduceSub,Nat.reduceMul,Nat.reduceLT,Nat.reduceLeDiff,Nat.reduceEqDiff,Nat.reduceBEq,reduceCtorEq,reduceIte,Int.reduceLE,Int.reduceLT,Int.reduceNeg,Int.reduceToNat,encEs_pure,encIs_pure,encQ,encP,Int.reduceAdd])
   ·(try simp -implicitDefEqProofs only [push_cast,Nat.reduceAdd,Nat.reduceSub,Nat.reduceMul,Nat.reduceLT,Nat.reduceLeDiff,Nat.reduceEqDiff,Nat.reduceBEq,reduceCtorEq,reduceIte,Int.reduceLE,Int.reduceLT,Int.reduceNeg,Int.reduceToNat,encEs_pure,encIs_pure,encQ,rowP_pure,rowP_one,encP])
   rintro j ⟨hj2,hj3,hj4⟩
   obtain rfl | rfl | rfl:j = 0 ∨ j = 1 ∨ j = 2:=by omega
   ·simp -implicitDefEqProofs only [push_cast,Nat.reduceAdd,Nat.reduceSub,Nat.reduceMul,Nat.reduceLT,Nat.reduceLeDiff,Nat.reduceEqDiff,Nat.reduceBEq,reduceCtorEq,reduceIte,Int.reduceLE,Int.reduceLT,Int.reduceNeg,Int.reduceToNat,encQ,encP,Int.reduceAdd]
    refine ⟨by decide,callq (hof x hx.1 hx.2) ?_⟩
    simp -implicitDefEqProofs only [push_cast,Nat.reduceAdd,Nat.reduceSub,Nat.reduceMul,Nat.reduceLT,Nat.reduceLeDiff,Nat.reduceEqDiff,Nat.reduceBEq,reduceCtorEq,reduceIte,Int.reduceLE,Int.reduceLT,Int.reduceNeg,Int.reduceToNat,encQ,encP,Int.reduceAdd]
    refine callq (setHolds_ok a _ (ofBits_range _).1 (ofBits_range _).2) ?_
    cases hax:bitC a x
    ·simp -implicitDefEqProofs only [push_cast,Nat.reduceAdd,Nat.reduceSub,Nat.reduceMul,Nat.reduceLT,Nat.reduceLeDiff,Nat.reduceEqDiff,Nat.reduceBEq,reduceCtorEq,reduceIte,Int.reduceLE,Int.reduceLT,Int.reduceNeg,Int.reduceToNat,encQ,encP,Int.reduceAdd,hlx,hax]
     refine gskip ?_
     simp -implicitDefEqProofs only [push_cast,Nat.reduceAdd,Nat.reduceSub,Nat.reduceMul,Nat.reduceLT,Nat.reduceLeDiff,Nat.reduceEqDiff,Nat.reduceBEq,reduceCtorEq,reduceIte,Int.reduceLE,Int.reduceLT,Int.reduceNeg,Int.reduceToNat,encQ,encP,Int.reduceAdd]
     refine gskip ?_
     simp -implicitDefEqProofs only [push_cast,Nat.reduceAdd,Nat.reduceSub,Nat.reduceMul,Nat.reduceLT,Nat.reduceLeDiff,Nat.reduceEqDiff,Nat.reduceBEq,reduceCtorEq,reduceIte,Int.reduceLE,Int.reduceLT,Int.reduceNeg,Int.reduceToNat,encQ,encP,Int.reduceAdd]
     refine gskip ?_
     simp -implicitDefEqProofs only [push_cast,Nat.reduceAdd,Nat.reduceSub,Nat.reduceMul,Nat.reduceLT,Nat.reduceLeDiff,Nat.reduceEqDiff,Nat.reduceBEq,reduceCtorEq,reduceIte,Int.reduceLE,Int.reduceLT,Int.reduceNeg,Int.reduceToNat,encQ,encP,Int.reduceAdd]
     rw [wrap64 (n:=1) (by omega) (by omega)]
     refine next_at [some 0,some 1,some 2] 1 ⟨by omega,fun _=>by rw [hc1,hax]; rfl,fun h=>by omega⟩ (by omega) rfl ?_ ?_
     ·(try simp -implicitDefEqProofs only [push_cast,Nat.reduceAdd,Nat.reduceSub,Nat.reduceMul,Nat.reduceLT,Nat.reduceLeDiff,Nat.reduceEqDiff,Nat.reduceBEq,reduceCtorEq,reduceIte,Int.reduceLE,Int.reduceLT,Int.reduceNeg,Int.reduceToNat,encEs_pure,encIs_pure,encQ,encP,Int.reduceAdd])
     ·(try simp -implicitDefEqProofs only [push_cast,Nat.reduceAdd,Nat.reduceSub,Nat.reduceMul,Nat.reduceLT,Nat.reduceLeDiff,Nat.reduceEqDiff,Nat.reduceBEq,reduceCtorEq,reduceIte,Int.reduceLE,Int.reduceLT,Int.reduceNeg,Int.reduceToNat,encEs_pure,encIs_pure,encQ,rowP_pure,rowP_one,encP])
    ·simp -implicitDefEqProofs only [push_cast,Nat.reduceAdd,Nat.reduceSub,Nat.reduceMul,Nat.reduceLT,Nat.reduceLeDiff,Nat.reduceEqDiff,Nat.reduceBEq,reduceCtorEq,reduceIte,Int.reduceLE,Int.reduceLT,Int.reduceNeg,Int.reduceToNat,encQ,encP,Int.reduceAdd,hlx,hax]
     refine gdo (by decide) ?_
     simp -implicitDefEqProofs only [push_cast,Nat.reduceAdd,Nat.reduceSub,Nat.reduceMul,Nat.reduceLT,Nat.reduceLeDiff,Nat.reduceEqDiff,Nat.reduceBEq,reduceCtorEq,reduceIte,Int.reduceLE,Int.reduceLT,Int.reduceNeg,Int.reduceToNat,encQ,encP,Int.reduceAdd]
     refine gcall trivial (callq (hof y hy.1 hy.2) ?_)
     simp -implicitDefEqProofs only [push_cast,Nat.reduceAdd,Nat.reduceSub,Nat.reduceMul,Nat.reduceLT,Nat.reduceLeDiff,Nat.reduceEqDiff,Nat.reduceBEq,reduceCtorEq,reduceIte,Int.reduceLE,Int.reduceLT,Int.reduceNeg,Int.reduceToNat,encQ,encP,Int.reduceAdd]
     refine gcall trivial (callq (setHolds_ok b _ (ofBits_range _).1 (ofBits_range _).2) ?_)
     simp -implicitDefEqProofs only [push_cast,Nat.reduceAdd,Nat.reduceSub,Nat.reduceMul,Nat.reduceLT,Nat.reduceLeDiff,Nat.reduceEqDiff,Nat.reduceBEq,reduceCtorEq,reduceIte,Int.reduceLE,Int.reduceLT,Int.reduceNeg,Int.reduceToNat,encQ,encP,Int.reduceAdd,hmy]
     refine ⟨fun h=>⟨by omega, ?_⟩,fun h=>?_⟩
     ·have hpo1:pairOf a b q.p[k] = [(x,y)]:=by rw [hpo,hc1,hax,h]; rfl
      rw [hpo1] at hps
      rw [wrap64 (n:=(i:Int) + 1) (by omega) (by omega)]
      refine next_at [some 0,some 5] (i + 1) (by omega) (by omega) rfl ?_ ?_
      ·(try simp -implicitDefEqProofs only [push_cast,Nat.reduceAdd,Nat.reduceSub,Nat.reduceMul,Nat.reduceLT,Nat.reduceLeDiff,Nat.reduceEqDiff,Nat.reduceBEq,reduceCtorEq,reduceIte,Int.reduceLE,Int.reduceLT,Int.reduceNeg,Int.reduceToNat,hps,encEs_pure,encIs_pure,encQ])
      ·(try simp -implicitDefEqProofs only [push_cast,Nat.reduceAdd,Nat.reduceSub,Nat.reduceMul,Nat.reduceLT,Nat.reduceLeDiff,Nat.reduceEqDiff,Nat.reduceBEq,reduceCtorEq,reduceIte,Int.reduceLE,Int.reduceLT,Int.reduceNeg,Int.reduceToNat,hps,encEs_pure,encIs_pure,encQ,take_rowP _ _ (Nat.le_refl _),snocP,rowP_pure,rowP_one])
     ·rw [wrap64 (n:=1) (by omega) (by omega)]
      refine next_at [some 0,some 1,some 2] 1 ⟨by omega,fun _=>by rw [hc1,hax,h]; rfl,fun h=>by omega⟩ (by omega) rfl ?_ ?_
      ·(try simp -implicitDefEqProofs only [push_cast,Nat.reduceAdd,Nat.reduceSub,Nat.reduceMul,Nat.reduceLT,Nat.reduceLeDiff,Nat.reduceEqDiff,Nat.reduceBEq,reduceCtorEq,reduceIte,Int.reduceLE,Int.reduceLT,Int.reduceNeg,Int.reduceToNat,encEs_pure,encIs_pure,encQ,encP,Int.reduceAdd])
      ·(try simp -implicitDefEqProofs only [push_cast,Nat.reduceAdd,Nat.reduceSub,Nat.reduceMul,Nat.reduceLT,Nat.reduceLeDiff,Nat.reduceEqDiff,Nat.reduceBEq,reduceCtorEq,reduceIte,Int.reduceLE,Int.reduceLT,Int.reduceNeg,Int.reduceToNat,encEs_pure,encIs_pure,encQ,rowP_pure,rowP_one,encP])
   ·simp -implicitDefEqProofs only [push_cast,Nat.reduceAdd,Nat.reduceSub,Nat.reduceMul,Nat.reduceLT,Nat.reduceLeDiff,Nat.reduceEqDiff,Nat.reduceBEq,reduceCtorEq,reduceIte,Int.reduceLE,Int.reduceLT,Int.reduceNeg,Int.reduceToNat,encQ,encP,Int.reduceAdd]
    refine ⟨by decide,callq (hof y hy.1 hy.2) ?_⟩
    simp -implicitDefEqProofs only [push_cast,Nat.reduceAdd,Nat.reduceSub,Nat.reduceMul,Nat.reduceLT,Nat.reduceLeDiff,Nat.reduceEqDiff,Nat.reduceBEq,reduceCtorEq,reduceIte,Int.reduceLE,Int.reduceLT,Int.reduceNeg,Int.reduceToNat,encQ,encP,Int.reduceAdd]
    refine callq (setHolds_ok a _ (ofBits_range _).1 (ofBits_range _).2) ?_
    cases hax:bitC a y
    ·simp -implicitDefEqProofs only [push_cast,Nat.reduceAdd,Nat.reduceSub,Nat.reduceMul,Nat.reduceLT,Nat.reduceLeDiff,Nat.reduceEqDiff,Nat.reduceBEq,reduceCtorEq,reduceIte,Int.reduceLE,Int.reduceLT,Int.reduceNeg,Int.reduceToNat,encQ,encP,Int.reduceAdd,hly,hax]
     refine gskip ?_
     simp -implicitDefEqProofs only [push_cast,Nat.reduceAdd,Nat.reduceSub,Nat.reduceMul,Nat.reduceLT,Nat.reduceLeDiff,Nat.reduceEqDiff,Nat.reduceBEq,reduceCtorEq,reduceIte,Int.reduceLE,Int.reduceLT,Int.reduceNeg,Int.reduceToNat,encQ,encP,Int.reduceAdd]
     refine gskip ?_
     simp -implicitDefEqProofs only [push_cast,Nat.reduceAdd,Nat.reduceSub,Nat.reduceMul,Nat.reduceLT,Nat.reduceLeDiff,Nat.reduceEqDiff,Nat.reduceBEq,reduceCtorEq,reduceIte,Int.reduceLE,Int.reduceLT,Int.reduceNeg,Int.reduceToNat,encQ,encP,Int.reduceAdd]
     refine gskip ?_
     simp -implicitDefEqProofs only [push_cast,Nat.reduceAdd,Nat.reduceSub,Nat.reduceMul,Nat.reduceLT,Nat.reduceLeDiff,Nat.reduceEqDiff,Nat.reduceBEq,reduceCtorEq,reduceIte,Int.reduceLE,Int.reduceLT,Int.reduceNeg,Int.reduceToNat,encQ,encP,Int.reduceAdd]
     rw [wrap64 (n:=2) (by omega) (by omega)]
     refine next_at [some 0,some 1,some 2] 2 ⟨by omega,fun _=>hj3 (by omega),fun _=>by rw [hc2,hax]; rfl⟩ (by omega) rfl ?_ ?_
     ·(try simp -implicitDefEqProofs only [push_cast,Nat.reduceAdd,Nat.reduceSub,Nat.reduceMul,Nat.reduceLT,Nat.reduceLeDiff,Nat.reduceEqDiff,Nat.reduceBEq,reduceCtorEq,reduceIte,Int.reduceLE,Int.reduceLT,Int.reduceNeg,Int.reduceToNat,encEs_pure,encIs_pure,encQ,encP,Int.reduceAdd])
     ·(try simp -implicitDefEqProofs only [push_cast,Nat.reduceAdd,Nat.reduceSub,Nat.reduceMul,Nat.reduceLT,Nat.reduceLeDiff,Nat.reduceEqDiff,Nat.reduceBEq,reduceCtorEq,reduceIte,Int.reduceLE,Int.reduceLT,Int.reduceNeg,Int.reduceToNat,encEs_pure,encIs_pure,encQ,rowP_pure,rowP_one,encP])
    ·simp -implicitDefEqProofs only [push_cast,Nat.reduceAdd,Nat.reduceSub,Nat.reduceMul,Nat.reduceLT,Nat.reduceLeDiff,Nat.reduceEqDiff,Nat.reduceBEq,reduceCtorEq,reduceIte,Int.reduceLE,Int.reduceLT,Int.reduceNeg,Int.reduceToNat,encQ,encP,Int.reduceAdd,hly,hax]
     refine gdo (by decide) ?_
     simp -implicitDefEqProofs only [push_cast,Nat.reduceAdd,Nat.reduceSub,Nat.reduceMul,Nat.reduceLT,Nat.reduceLeDiff,Nat.reduceEqDiff,Nat.reduceBEq,reduceCtorEq,reduceIte,Int.reduceLE,Int.reduceLT,Int.reduceNeg,Int.reduceToNat,encQ,encP,Int.reduceAdd]
     refine gcall trivial (callq (hof x hx.1 hx.2) ?_)
     simp -implicitDefEqProofs only [push_cast,Nat.reduceAdd,Nat.reduceSub,Nat.reduceMul,Nat.reduceLT,Nat.reduceLeDiff,Nat.reduceEqDiff,Nat.reduceBEq,reduceCtorEq,reduceIte,Int.reduceLE,Int.reduceLT,Int.reduceNeg,Int.reduceToNat,encQ,encP,Int.reduceAdd]
     refine gcall trivial (callq (setHolds_ok b _ (ofBits_range _).1 (ofBits_range _).2) ?_)
     simp -implicitDefEqProofs only [push_cast,Nat.reduceAdd,Nat.reduceSub,Nat.reduceMul,Nat.reduceLT,Nat.reduceLeDiff,Nat.reduceEqDiff,Nat.reduceBEq,reduceCtorEq,reduceIte,Int.reduceLE,Int.reduceLT,Int.reduceNeg,Int.reduceToNat,encQ,encP,Int.reduceAdd,hmx]
     refine ⟨fun h=>⟨by omega, ?_⟩,fun h=>?_⟩
     ·have hpo1:pairOf a b q.p[k] = [(y,x)]:=by rw [hpo,hj3 (by omega),hc2,hax,h]; rfl
      rw [hpo1] at hps
      rw [wrap64 (n:=(i:Int) + 1) (by omega) (by omega)]
      refine next_at [some 0,some 5] (i + 1) (by omega) (by omega) rfl ?_ ?_
      ·(try simp -implicitDefEqProofs only [push_cast,Nat.reduceAdd,Nat.reduceSub,Nat.reduceMul,Nat.reduceLT,Nat.reduceLeDiff,Nat.reduceEqDiff,Nat.reduceBEq,reduceCtorEq,reduceIte,Int.reduceLE,Int.reduceLT,Int.reduceNeg,Int.reduceToNat,hps,encEs_pure,encIs_pure,encQ])
      ·(try simp -implicitDefEqProofs only [push_cast,Nat.reduceAdd,Nat.reduceSub,Nat.reduceMul,Nat.reduceLT,Nat.reduceLeDiff,Nat.reduceEqDiff,Nat.reduceBEq,reduceCtorEq,reduceIte,Int.reduceLE,Int.reduceLT,Int.reduceNeg,Int.reduceToNat,hps,encEs_pure,encIs_pure,encQ,take_rowP _ _ (Nat.le_refl _),snocP,rowP_pure,rowP_one])
     ·rw [wrap64 (n:=2) (by omega) (by omega)]
      refine next_at [some 0,some 1,some 2] 2 ⟨by omega,fun _=>hj3 (by omega),fun _=>by rw [hc2,hax,h]; rfl⟩ (by omega) rfl ?_ ?_
      ·(try simp -implicitDefEqProofs only [push_cast,Nat.reduceAdd,Nat.reduceSub,Nat.reduceMul,Nat.reduceLT,Nat.reduceLeDiff,Nat.reduceEqDiff,Nat.reduceBEq,reduceCtorEq,reduceIte,Int.reduceLE,Int.reduceLT,Int.reduceNeg,Int.reduceToNat,encEs_pure,encIs_pure,encQ,encP,Int.reduceAdd])
      ·(try simp -implicitDefEqProofs only [push_cast,Nat.reduceAdd,Nat.reduceSub,Nat.reduceMul,Nat.reduceLT,Nat.reduceLeDiff,Nat.reduceEqDiff,Nat.reduceBEq,reduceCtorEq,reduceIte,Int.reduceLE,Int.reduceLT,Int.reduceNeg,Int.reduceToNat,encEs_pure,encIs_pure,encQ,rowP_pure,rowP_one,encP])
   ·simp -implicitDefEqProofs only [push_cast,Nat.reduceAdd,Nat.reduceSub,Nat.reduceMul,Nat.reduceLT,Nat.reduceLeDiff,Nat.reduceEqDiff,Nat.reduceBEq,reduceCtorEq,reduceIte,Int.reduceLE,Int.reduceLT,Int.reduceNeg,Int.reduceToNat,encQ,encP,Int.reduceAdd]
    rw [hj3 (by omega),hj4 (by omega)] at hpo
    simp only [Bool.false_eq_true,if_false] at hpo
    rw [hpo,List.append_nil] at hps
    rw [wrap64 (n:=(i:Int) + 1) (by omega) (by omega)]
    refine next_at [some 0,some 1] (i + 1) (by omega) (by omega) rfl ?_ ?_
    ·(try simp -implicitDefEqProofs only [push_cast,Nat.reduceAdd,Nat.reduceSub,Nat.reduceMul,Nat.reduceLT,Nat.reduceLeDiff,Nat.reduceEqDiff,Nat.reduceBEq,reduceCtorEq,reduceIte,Int.reduceLE,Int.reduceLT,Int.reduceNeg,Int.reduceToNat,hps,encEs_pure,encIs_pure,encQ])
    ·(try simp -implicitDefEqProofs only [push_cast,Nat.reduceAdd,Nat.reduceSub,Nat.reduceMul,Nat.reduceLT,Nat.reduceLeDiff,Nat.reduceEqDiff,Nat.reduceBEq,reduceCtorEq,reduceIte,Int.reduceLE,Int.reduceLT,Int.reduceNeg,Int.reduceToNat,hps,encEs_pure,encIs_pure,encQ,rowP_pure,rowP_one])
 ·have hi':((i:Int) < (l.length:Int)) = False:=by simp; omega
  have h5:l.take i = l:=List.take_of_length_le (by omega)
  simp -implicitDefEqProofs only [push_cast,Nat.reduceAdd,Nat.reduceSub,Nat.reduceMul,Nat.reduceLT,Nat.reduceLeDiff,Nat.reduceEqDiff,Nat.reduceBEq,reduceCtorEq,reduceIte,Int.reduceLE,Int.reduceLT,Int.reduceNeg,Int.reduceToNat,hi',h5]
  (try simp -implicitDefEqProofs only [push_cast,Nat.reduceAdd,Nat.reduceSub,Nat.reduceMul,Nat.reduceLT,Nat.reduceLeDiff,Nat.reduceEqDiff,Nat.reduceBEq,reduceCtorEq,reduceIte,Int.reduceLE,Int.reduceLT,Int.reduceNeg,Int.reduceToNat])
  rw [take_rowP _ _ (Nat.le_refl _)]
  exact sealLL_pure _ _ _ (rowP_pure _)
end
section
attribute [local push_cast] encE_mk encE_take encE_len encV encE_one encEs_pure encE_pure
inductive Ex.In:Ex → Prop
 | mk {op col k n:Int} {l:List Ex} (h1:In64 n) (h2:∀ x ∈ l,x.In):Ex.In (.mk op col k n l)
theorem MayR_ok2 (e:Ex) (hok:e.Ok):Quiet Go.Proofs.Tryz.prog 167 [.agg (encE e)] (.bool e.may):=by
 have:=MayR_ok e hok
 rwa [mayR_eq] at this
theorem ColsR_ok2 (e:Ex) (hok:e.Ok):Quiet Go.Proofs.Tryz.prog 132 [.agg (encE e)] (.sl (e.cols.map encI)):=by
 have:=ColsR_ok e hok
 rwa [colsR_eq] at this
theorem PairR_ok (e:Ex) (hok:e.Ok):Quiet Go.Proofs.Tryz.prog 140 [.agg (encE e)] (.tup [.int e.pair.1, .int e.pair.2.1, .bool e.pair.2.2]):=by
 obtain ⟨op,col,k,n,l⟩:=e
 refine quiet_of (rs:=#[.tmp 2, .tmp 3, .tmp 4]) Go.Proofs.Tryz.func140 rfl rfl rfl mixed rfl rfl fun H hs=>?_
 have hm:=MayR_ok2 _ hok
 simp only [encE_mk] at hm
 simp -implicitDefEqProofs only [push_cast,Nat.reduceAdd,Nat.reduceSub,Nat.reduceMul,Nat.reduceLT,Nat.reduceLeDiff,Nat.reduceEqDiff,Nat.reduceBEq,reduceCtorEq,reduceIte,Int.reduceLE,Int.reduceLT,Int.reduceNeg,Int.reduceToNat]
 refine callq hm ?_
 by_cases h6:(Ex.mk op col k n l).may = true ∧ op = 6
 ·obtain ⟨hmay,hop⟩:=h6
  have h2:l.length = 2:=by
   obtain ⟨hp,_⟩:=may_fine hmay
   obtain ⟨_,_,⟨h3,h4⟩,_⟩:=(part_iff _ _ _ _ _).1 hp
   rw [hop] at h3 h4
   simp [wayLo,wayHi] at h3 h4
   omega
  obtain ⟨a,b,rfl⟩:∃ a b,l = [a,b]:=by
   match l,h2 with
   | [a,b],_=>exact ⟨a,b,rfl⟩
  obtain ⟨ao,ac,ak,an,al⟩:=a
  obtain ⟨bo,bc,bk,bn,bl⟩:=b
  rw [hmay]
  simp -implicitDefEqProofs only [push_cast,Nat.reduceAdd,Nat.reduceSub,Nat.reduceMul,Nat.reduceLT,Nat.reduceLeDiff,Nat.reduceEqDiff,Nat.reduceBEq,reduceCtorEq,reduceIte,Int.reduceLE,Int.reduceLT,Int.reduceNeg,Int.reduceToNat]
  refine areg_at 35 (by kernel_rfl) (by kernel_rfl) ?_
  simp -implicitDefEqProofs only [push_cast,Nat.reduceAdd,Nat.reduceSub,Nat.reduceMul,Nat.reduceLT,Nat.reduceLeDiff,Nat.reduceEqDiff,Nat.reduceBEq,reduceCtorEq,reduceIte,Int.reduceLE,Int.reduceLT,Int.reduceNeg,Int.reduceToNat,hop,List.map_cons,List.map_nil]
  refine ⟨by omega,fun _=>by omega,fun _=>by omega,fun _=>by omega,fun h1=>?_,fun h1=>?_⟩
  ·have hz:(Ex.mk op col k n [Ex.mk ao ac ak an al,Ex.mk bo bc bk bn bl]).pair = (ac,bc,true):=by
    simp only [Ex.pair,hmay,hop,Ex.op,Ex.col]
    rw [if_pos (by grind)]
   rw [hop] at hz
   rw [hz]
   refine areg_at 11 (by kernel_rfl) (by kernel_rfl) ?_
   simp -implicitDefEqProofs only [push_cast,Nat.reduceAdd,Nat.reduceSub,Nat.reduceMul,Nat.reduceLT,Nat.reduceLeDiff,Nat.reduceEqDiff,Nat.reduceBEq,reduceCtorEq,reduceIte,Int.reduceLE,Int.reduceLT,Int.reduceNeg,Int.reduceToNat,List.map_cons,List.map_nil]
   omega
  ·have hz:(Ex.mk op col k n [Ex.mk ao ac ak an al,Ex.mk bo bc bk bn bl]).pair = (0,0,false):=by
    simp only [Ex.pair,hmay,hop,Ex.op,Ex.col]
    rw [if_neg (by grind)]
   rw [hop] at hz
   rw [hz]
   (try simp -implicitDefEqProofs only [push_cast,Nat.reduceAdd,Nat.reduceSub,Nat.reduceMul,Nat.reduceLT,Nat.reduceLeDiff,Nat.reduceEqDiff,Nat.reduceBEq,reduceCtorEq,reduceIte,Int.reduceLE,Int.reduceLT,Int.reduceNeg,Int.reduceToNat])
 ·have hz:(Ex.mk op col k n l).pair = (0,0,false):=by
   unfold Ex.pair
   split
   ·rename_i a b heq
    injection heq with e1 e2 e3 e4 e5
    subst e1 e2 e3 e4 e5
    rw [if_neg (by grind)]
   ·rfl
  rw [hz]
  generalize (Ex.mk op col k n l).may = mv at h6
  have fin:∀ l':List Ex,l'.map encE = l.map encE → True:=fun _ _=>trivial
  rcases l with _ | ⟨⟨ao,ac,ak,an,al⟩,_ | ⟨⟨bo,bc,bk,bn,bl⟩,l⟩⟩
  all_goals cases mv
  all_goals first
   | (have hop:(op = 6) = False:=by simpa using h6)
   | skip
  all_goals (simp -implicitDefEqProofs only [push_cast,Nat.reduceAdd,Nat.reduceSub,Nat.reduceMul,Nat.reduceLT,Nat.reduceLeDiff,Nat.reduceEqDiff,Nat.reduceBEq,reduceCtorEq,reduceIte,Int.reduceLE,Int.reduceLT,Int.reduceNeg,Int.reduceToNat])
  all_goals (refine areg_at 35 (by kernel_rfl) (by kernel_rfl) ?_)
  all_goals (first | (simp -implicitDefEqProofs only [push_cast,Nat.reduceAdd,Nat.reduceSub,Nat.reduceMul,Nat.reduceLT,Nat.reduceLeDiff,Nat.reduceEqDiff,Nat.reduceBEq,reduceCtorEq,reduceIte,Int.reduceLE,Int.reduceLT,Int.reduceNeg,Int.reduceToNat,hop,List.map_cons,List.map_nil,List.getD_nil,List.drop_nil]) | (simp -implicitDefEqProofs only [push_cast,Nat.reduceAdd,Nat.reduceSub,Nat.reduceMul,Nat.reduceLT,Nat.reduceLeDiff,Nat.reduceEqDiff,Nat.reduceBEq,reduceCtorEq,reduceIte,Int.reduceLE,Int.reduceLT,Int.reduceNeg,Int.reduceToNat,List.map_cons,List.map_nil,List.getD_nil,List.drop_nil]))
  all_goals ((try simp -implicitDefEqProofs only [push_cast,Nat.reduceAdd,Nat.reduceSub,Nat.reduceMul,Nat.reduceLT,Nat.reduceLeDiff,Nat.reduceEqDiff,Nat.reduceBEq,reduceCtorEq,reduceIte,Int.reduceLE,Int.reduceLT,Int.reduceNeg,Int.reduceToNat]))
end
section
attribute [local push_cast] encE_mk encE_take encE_len encV encE_one encEs_pure encE_pure
def Qy.In (q:Qy):Prop:=(∀ x ∈ q.out,In64 x) ∧ (∀ x ∈ q.sums,In64 x) ∧ In64 q.by_
def exR (c:List Df) (q:Qy) (e:Ex):Bool:=e.cols.all (isCol c q) && !decide (e.cols.length = 0)
def outR (c:List Df) (q:Qy) (i:Nat):Bool:=isCol c q (q.out.getD i 0) && decide (idx (fun x=>decide (q.out.getD i 0 = x)) q.out = i)
def endR (c:List Df) (q:Qy):Bool :=
 if q.by_ = -1 then decide (q.sums.length = 0) && decide (0 < q.out.length) && (decide (q.ord = -1) || decide (0 ≤ idx (fun x=>decide (q.ord = x)) q.out))
 else isCol c q q.by_ && decide (q.out.length = 0) && (decide (q.ord = -1) || decide (q.ord = q.by_))
def hdR (c:List Df) (q:Qy):Bool:=catMay c && decide (1 ≤ q.occ.length) && decide (q.occ.length ≤ 4) && decide (q.p.length ≤ 6) && decide (q.sums.length ≤ 4) && decide (q.out.length ≤ 8)
def Qy.mayR (q:Qy) (c:List Df):Bool :=
 hdR c q && q.occ.all (tabOk c) && q.p.all (exR c q) && (List.range q.out.length).all (outR c q) && q.sums.all (isCol c q) && endR c q
theorem out_R (q:Qy) (c:List Df):(List.range q.out.length).all (outR c q) = (q.out.all (isCol c q) && decide q.out.Nodup):=by
 have hg:∀ i,(h:i < q.out.length) → q.out.getD i 0 = q.out[i]:=fun i h=>by rw [List.getD_eq_getElem?_getD,List.getElem?_eq_getElem h]; rfl
 rw [Bool.eq_iff_iff,Bool.and_eq_true,List.all_eq_true,List.all_eq_true,decide_eq_true_eq,← place_iff]
 constructor
 ·intro h
  have h':∀ i,(hi:i < q.out.length) → isCol c q q.out[i] = true ∧ idx (fun x=>decide (q.out[i] = x)) q.out = i:=fun i hi=>by
   have:=h i (List.mem_range.2 hi)
   rw [outR,hg i hi,Bool.and_eq_true,decide_eq_true_eq] at this
   exact this
  refine ⟨fun x hx=>?_,fun i hi=>(h' i hi).2⟩
  obtain ⟨i,hi,rfl⟩:=List.mem_iff_getElem.1 hx
  exact (h' i hi).1
 ·rintro ⟨h1,h2⟩ i hi
  rw [List.mem_range] at hi
  rw [outR,hg i hi,Bool.and_eq_true,decide_eq_true_eq]
  exact ⟨h1 _ (List.getElem_mem hi),h2 i hi⟩
theorem ex_R (q:Qy) (c:List Df) (e:Ex):exR c q e = exIn (colsIn c q fun _=>true) e:=by
 rw [exR,exIn,within_isCol,Bool.and_comm]
theorem mayQ_eq (q:Qy) (c:List Df):q.mayR c = q.may c:=by
 have hord:decide (0 ≤ idx (fun x=>decide (q.ord = x)) q.out) = q.out.contains q.ord:=by
  have:=idx_neg q.out q.ord
  rw [← Bool.not_inj_iff,← this,← decide_not,decide_eq_decide]
  omega
 have hex:q.p.all (exR c q) = q.p.all (exIn (colsIn c q fun _=>true)):=congrArg _ (funext fun e=>ex_R q c e)
 have hs0:q.sums.length = 0 → q.sums.all (isCol c q) = true:=fun h=>by
  rw [List.eq_nil_of_length_eq_zero h]; rfl
 have ho0:q.out.length = 0 → q.out.all (isCol c q) = true ∧ q.out.Nodup:=fun h=>by
  rw [List.eq_nil_of_length_eq_zero h]; simp
 have hb:within [q.by_] (colsIn c q fun _=>true) = isCol c q q.by_:=by
  rw [within_isCol]; simp
 rw [Qy.mayR,out_R,hex,hdR,endR,Qy.may,endMay,hord,within_isCol c q q.out,within_isCol c q q.sums,hb,Bool.eq_iff_iff]
 by_cases h:q.by_ = -1
 ·rw [if_pos h,if_pos h]
  simp only [Bool.and_eq_true,decide_eq_true_eq,Bool.or_eq_true]
  constructor
  ·rintro ⟨⟨⟨⟨⟨⟨⟨⟨⟨⟨z,a⟩,b⟩,d⟩,e⟩,f⟩,g⟩,i⟩,j,k⟩,l⟩,⟨m,n⟩,o⟩
   exact ⟨⟨⟨⟨⟨⟨z,a⟩,b⟩,g⟩,d⟩,i⟩,⟨⟨⟨⟨⟨by omega,f⟩,k⟩,j⟩,m⟩,o⟩⟩
  ·rintro ⟨⟨⟨⟨⟨⟨z,a⟩,b⟩,g⟩,d⟩,i⟩,⟨⟨⟨⟨⟨n,f⟩,k⟩,j⟩,m⟩,o⟩⟩
   exact ⟨⟨⟨⟨⟨⟨⟨⟨⟨⟨z,a⟩,b⟩,d⟩,by omega⟩,f⟩,g⟩,i⟩,j,k⟩,hs0 m⟩,⟨m,by omega⟩,o⟩
 ·rw [if_neg h,if_neg h]
  simp only [Bool.and_eq_true,decide_eq_true_eq,Bool.or_eq_true]
  constructor
  ·rintro ⟨⟨⟨⟨⟨⟨⟨⟨⟨⟨z,a⟩,b⟩,d⟩,e⟩,f⟩,g⟩,i⟩,j,k⟩,l⟩,⟨m,n⟩,o⟩
   exact ⟨⟨⟨⟨⟨⟨z,a⟩,b⟩,g⟩,d⟩,i⟩,⟨⟨⟨⟨m,e⟩,l⟩,n⟩,o⟩⟩
  ·rintro ⟨⟨⟨⟨⟨⟨z,a⟩,b⟩,g⟩,d⟩,i⟩,⟨⟨⟨⟨m,e⟩,l⟩,n⟩,o⟩⟩
   exact ⟨⟨⟨⟨⟨⟨⟨⟨⟨⟨z,a⟩,b⟩,d⟩,e⟩,by omega⟩,g⟩,i⟩,(ho0 n).1,(ho0 n).2⟩,l⟩,⟨m,n⟩,o⟩
theorem MayRQ_ok (c:List Df) (hcl:c.length ≤ 1000000) (q:Qy) (hq:q.Ok) (hin:q.In):Quiet Go.Proofs.Tryz.prog 83 [.agg [.sl (c.map encD)], .agg (encQ q)] (.bool (q.may c)):=by
 rw [← mayQ_eq]
 obtain ⟨hP,hex,hO,hS,hT⟩:=hq
 obtain ⟨hin1,hin2,hin3⟩:=hin
 refine quiet_of (rs:=#[.tmp 4]) Go.Proofs.Tryz.func83 rfl rfl rfl mixed rfl rfl fun H hs=>?_
 simp -implicitDefEqProofs only [push_cast,Nat.reduceAdd,Nat.reduceSub,Nat.reduceMul,Nat.reduceLT,Nat.reduceLeDiff,Nat.reduceEqDiff,Nat.reduceBEq,reduceCtorEq,reduceIte,Int.reduceLE,Int.reduceLT,Int.reduceNeg,Int.reduceToNat,encQ]
 refine callq (MayC_ok c hcl) ?_
 simp -implicitDefEqProofs only [push_cast,Nat.reduceAdd,Nat.reduceSub,Nat.reduceMul,Nat.reduceLT,Nat.reduceLeDiff,Nat.reduceEqDiff,Nat.reduceBEq,reduceCtorEq,reduceIte,Int.reduceLE,Int.reduceLT,Int.reduceNeg,Int.reduceToNat,encQ]
 refine ⟨fun h=>?_,fun h=>?_⟩
 ·have:q.mayR c = false:=by
   have h0:hdR c q = false:=by
    simp only [Bool.or_eq_true,Bool.not_eq_true',decide_eq_true_eq] at h
    unfold hdR
    rcases h with ((((h | h) | h) | h) | h) | h
    ·simp [h]
    ·simp [decide_eq_false (show ¬ 1 ≤ q.occ.length by omega)]
    ·simp [decide_eq_false (show ¬ q.occ.length ≤ 4 by omega)]
    ·simp [decide_eq_false (show ¬ q.p.length ≤ 6 by omega)]
    ·simp [decide_eq_false (show ¬ q.sums.length ≤ 4 by omega)]
    ·simp [decide_eq_false (show ¬ q.out.length ≤ 8 by omega)]
   rw [Qy.mayR,h0]; rfl
  exact this.symm
 have hh:hdR c q = true ∧ catMay c = true ∧ q.occ.length ≤ 4 ∧ q.p.length ≤ 6 ∧ q.sums.length ≤ 4 ∧ q.out.length ≤ 8:=by
  simp only [Bool.or_eq_false_iff,Bool.not_eq_false',decide_eq_false_iff_not] at h
  obtain ⟨⟨⟨⟨⟨h1,h2⟩,h3⟩,h4⟩,h5⟩,h6⟩:=h
  refine ⟨?_,h1,by omega,by omega,by omega,by omega⟩
  rw [hdR,h1,decide_eq_true (show 1 ≤ q.occ.length by omega),decide_eq_true (show q.occ.length ≤ 4 by omega),decide_eq_true (show q.p.length ≤ 6 by omega),decide_eq_true (show q.sums.length ≤ 4 by omega),decide_eq_true (show q.out.length ≤ 8 by omega)]
  rfl
 obtain ⟨hhd,hc,ho4,hp6,hs4,ht8⟩:=hh
 have hmay:q.mayR c = (q.occ.all (tabOk c) && q.p.all (exR c q) && (List.range q.out.length).all (outR c q) && q.sums.all (isCol c q) && endR c q):=by
  rw [Qy.mayR,hhd]; simp only [Bool.true_and]
 rw [hmay]
 have hcol:∀ id,In64 id → Quiet Go.Proofs.Tryz.prog 133 [.agg [.sl (c.map encD)], .agg (encQ q), .int id] (.bool (isCol c q id)):=fun id hid=>column_ok c hcl q hO id hid
 simp only [encQ] at hcol
 refine loop_at hs (σ:=Nat) (fun i=>i ≤ q.occ.length ∧ (q.occ.take i).all (tabOk c) = true) (fun i=>q.occ.length - i)
  (fun i=>[(6, .int i),(2, .ptr (H.nxt + 0) 1 0 0),(3, .ptr (H.nxt + 1) 6 0 0)]) (fun i=>[some (.cells 1 [[.sl (c.map encD)]] 0),some (.cells 6 [encQ q] 0)]) [some 0,some 1] 0 ⟨by omega,rfl⟩ rfl ?_ ?_ ?_
 ·(try simp -implicitDefEqProofs only [push_cast,Nat.reduceAdd,Nat.reduceSub,Nat.reduceMul,Nat.reduceLT,Nat.reduceLeDiff,Nat.reduceEqDiff,Nat.reduceBEq,reduceCtorEq,reduceIte,Int.reduceLE,Int.reduceLT,Int.reduceNeg,Int.reduceToNat,encDs_pure,encEs_pure,encIs_pure,encQ])
 ·(try simp -implicitDefEqProofs only [push_cast,Nat.reduceAdd,Nat.reduceSub,Nat.reduceMul,Nat.reduceLT,Nat.reduceLeDiff,Nat.reduceEqDiff,Nat.reduceBEq,reduceCtorEq,reduceIte,Int.reduceLE,Int.reduceLT,Int.reduceNeg,Int.reduceToNat,encDs_pure,encEs_pure,encIs_pure,encQ])
 rintro i ⟨hi2,hia⟩
 by_cases hi:i < q.occ.length
 ·have hi':((i:Int) < (q.occ.length:Int)) = True:=by simp; omega
  have hi0:(0 ≤ (i:Int)) = True:=by simp
  simp -implicitDefEqProofs only [push_cast,Nat.reduceAdd,Nat.reduceSub,Nat.reduceMul,Nat.reduceLT,Nat.reduceLeDiff,Nat.reduceEqDiff,Nat.reduceBEq,reduceCtorEq,reduceIte,Int.reduceLE,Int.reduceLT,Int.reduceNeg,Int.reduceToNat,hi',hi0,encIs_get q.occ i hi,encI,encQ]
  refine areg_at 17 (by kernel_rfl) (by kernel_rfl) ?_
  simp -implicitDefEqProofs only [push_cast,Nat.reduceAdd,Nat.reduceSub,Nat.reduceMul,Nat.reduceLT,Nat.reduceLeDiff,Nat.reduceEqDiff,Nat.reduceBEq,reduceCtorEq,reduceIte,Int.reduceLE,Int.reduceLT,Int.reduceNeg,Int.reduceToNat,hi',hi0,encIs_get q.occ i hi,encI,encQ]
  have ht:(decide (q.occ[i] < 0) || decide ((c.length:Int) ≤ q.occ[i])) = !tabOk c q.occ[i]:=by
   unfold tabOk
   rw [Bool.not_and,← decide_not,← decide_not]
   congr 1 <;> rw [decide_eq_decide] <;> omega
  rw [ht]
  refine ⟨fun h=>?_,fun h=>?_⟩
  ·have:q.occ.all (tabOk c) = false:=by rw [List.all_eq_false]; exact ⟨_,List.getElem_mem hi,by simpa using h⟩
   rw [this]; rfl
  ·rw [wrap64 (n:=(i:Int) + 1) (by omega) (by omega)]
   refine next_at [some 0,some 1] (i + 1) ⟨by omega, ?_⟩ (by omega) rfl ?_ ?_
   ·rw [List.take_succ_eq_append_getElem hi,List.all_append,hia,List.all_cons]
    simpa using h
   ·(try simp -implicitDefEqProofs only [push_cast,Nat.reduceAdd,Nat.reduceSub,Nat.reduceMul,Nat.reduceLT,Nat.reduceLeDiff,Nat.reduceEqDiff,Nat.reduceBEq,reduceCtorEq,reduceIte,Int.reduceLE,Int.reduceLT,Int.reduceNeg,Int.reduceToNat,encDs_pure,encEs_pure,encIs_pure,encQ])
   ·(try simp -implicitDefEqProofs only [push_cast,Nat.reduceAdd,Nat.reduceSub,Nat.reduceMul,Nat.reduceLT,Nat.reduceLeDiff,Nat.reduceEqDiff,Nat.reduceBEq,reduceCtorEq,reduceIte,Int.reduceLE,Int.reduceLT,Int.reduceNeg,Int.reduceToNat,encDs_pure,encEs_pure,encIs_pure,encQ])
 have hi':((i:Int) < (q.occ.length:Int)) = False:=by simp; omega
 obtain rfl:i = q.occ.length:=by omega
 rw [List.take_length] at hia
 rw [hia,Bool.true_and]
 simp -implicitDefEqProofs only [push_cast,Nat.reduceAdd,Nat.reduceSub,Nat.reduceMul,Nat.reduceLT,Nat.reduceLeDiff,Nat.reduceEqDiff,Nat.reduceBEq,reduceCtorEq,reduceIte,Int.reduceLE,Int.reduceLT,Int.reduceNeg,Int.reduceToNat,hi',encQ]
 clear hia hi hi' hi2
 refine loop_at hs (σ:=Nat) (fun i=>i ≤ q.p.length ∧ (q.p.take i).all (exR c q) = true) (fun i=>q.p.length - i)
  (fun i=>[(7, .int i),(2, .ptr (H.nxt + 0) 1 0 0),(3, .ptr (H.nxt + 1) 6 0 0)]) (fun i=>[some (.cells 1 [[.sl (c.map encD)]] 0),some (.cells 6 [encQ q] 0)]) [some 0,some 1] 0 ⟨by omega,rfl⟩ rfl ?_ ?_ ?_
 ·(try simp -implicitDefEqProofs only [push_cast,Nat.reduceAdd,Nat.reduceSub,Nat.reduceMul,Nat.reduceLT,Nat.reduceLeDiff,Nat.reduceEqDiff,Nat.reduceBEq,reduceCtorEq,reduceIte,Int.reduceLE,Int.reduceLT,Int.reduceNeg,Int.reduceToNat,encDs_pure,encEs_pure,encIs_pure,encQ])
 ·(try simp -implicitDefEqProofs only [push_cast,Nat.reduceAdd,Nat.reduceSub,Nat.reduceMul,Nat.reduceLT,Nat.reduceLeDiff,Nat.reduceEqDiff,Nat.reduceBEq,reduceCtorEq,reduceIte,Int.reduceLE,Int.reduceLT,Int.reduceNeg,Int.reduceToNat,encDs_pure,encEs_pure,encIs_pure,encQ])
 rintro i ⟨hi2,hia⟩
 by_cases hi:i < q.p.length
 ·have hi':((i:Int) < (q.p.length:Int)) = True:=by simp; omega
  have hi0:(0 ≤ (i:Int)) = True:=by simp
  have hok:=hex _ (List.getElem_mem hi)
  have hno:exR c q q.p[i] = false → q.p.all (exR c q) = false:=fun h=>by
   rw [List.all_eq_false]; exact ⟨_,List.getElem_mem hi,by rw [h]; simp⟩
  have hcr:=cols_rng q.p[i]
  have hcl2:q.p[i].cols.length ≤ 1000000:=Nat.le_trans (cols_len _) hok.2
  simp -implicitDefEqProofs only [push_cast,Nat.reduceAdd,Nat.reduceSub,Nat.reduceMul,Nat.reduceLT,Nat.reduceLeDiff,Nat.reduceEqDiff,Nat.reduceBEq,reduceCtorEq,reduceIte,Int.reduceLE,Int.reduceLT,Int.reduceNeg,Int.reduceToNat,hi',hi0,encEs_get q.p i hi,encQ]
  refine callq (ColsR_ok2 _ hok.1) ?_
  simp -implicitDefEqProofs only [push_cast,Nat.reduceAdd,Nat.reduceSub,Nat.reduceMul,Nat.reduceLT,Nat.reduceLeDiff,Nat.reduceEqDiff,Nat.reduceBEq,reduceCtorEq,reduceIte,Int.reduceLE,Int.reduceLT,Int.reduceNeg,Int.reduceToNat,encQ]
  have hyes:exR c q q.p[i] = true → (q.p.take (i + 1)).all (exR c q) = true:=fun h=>by
   rw [List.take_succ_eq_append_getElem hi,List.all_append,hia,List.all_cons,h]; rfl
  have hexR:exR c q q.p[i] = (q.p[i].cols.all (isCol c q) && !decide (q.p[i].cols.length = 0)):=rfl
  generalize q.p[i].cols = cols at hcr hcl2 hexR ⊢
  refine loop_at hs (σ:=Nat) (fun k=>k ≤ cols.length ∧ (cols.take k).all (isCol c q) = true) (fun k=>cols.length - k)
   (fun k=>[(9, .int k),(8, .sl (cols.map encI)),(7, .int i),(2, .ptr (H.nxt + 0) 1 0 0),(3, .ptr (H.nxt + 1) 6 0 0)]) (fun k=>[some (.cells 1 [[.sl (c.map encD)]] 0),some (.cells 6 [encQ q] 0)]) [some 0,some 1] 0 ⟨by omega,rfl⟩ rfl ?_ ?_ ?_
  ·(try simp -implicitDefEqProofs only [push_cast,Nat.reduceAdd,Nat.reduceSub,Nat.reduceMul,Nat.reduceLT,Nat.reduceLeDiff,Nat.reduceEqDiff,Nat.reduceBEq,reduceCtorEq,reduceIte,Int.reduceLE,Int.reduceLT,Int.reduceNeg,Int.reduceToNat,encDs_pure,encEs_pure,encIs_pure,encQ])
  ·(try simp -implicitDefEqProofs only [push_cast,Nat.reduceAdd,Nat.reduceSub,Nat.reduceMul,Nat.reduceLT,Nat.reduceLeDiff,Nat.reduceEqDiff,Nat.reduceBEq,reduceCtorEq,reduceIte,Int.reduceLE,Int.reduceLT,Int.reduceNeg,Int.reduceToNat,encDs_pure,encEs_pure,encIs_pure,encQ])
  rintro k ⟨hk2,hka⟩
  by_cases hk:k < cols.length
  ·have hk':((k:Int) < (cols.length:Int)) = True:=by simp; omega
   have hk0:(0 ≤ (k:Int)) = True:=by simp
   have hr:=hcr _ (List.getElem_mem hk)
   simp -implicitDefEqProofs only [push_cast,Nat.reduceAdd,Nat.reduceSub,Nat.reduceMul,Nat.reduceLT,Nat.reduceLeDiff,Nat.reduceEqDiff,Nat.reduceBEq,reduceCtorEq,reduceIte,Int.reduceLE,Int.reduceLT,Int.reduceNeg,Int.reduceToNat,hk',hk0,encQ]
   refine areg_at 8 (by kernel_rfl) (by kernel_rfl) ?_
   simp -implicitDefEqProofs only [push_cast,Nat.reduceAdd,Nat.reduceSub,Nat.reduceMul,Nat.reduceLT,Nat.reduceLeDiff,Nat.reduceEqDiff,Nat.reduceBEq,reduceCtorEq,reduceIte,Int.reduceLE,Int.reduceLT,Int.reduceNeg,Int.reduceToNat,hk',hk0,encIs_get cols k hk,encI,encQ]
   refine ahdq (hcol cols[k] (by unfold In64; omega)) ?_
   simp -implicitDefEqProofs only [push_cast,Nat.reduceAdd,Nat.reduceSub,Nat.reduceMul,Nat.reduceLT,Nat.reduceLeDiff,Nat.reduceEqDiff,Nat.reduceBEq,reduceCtorEq,reduceIte,Int.reduceLE,Int.reduceLT,Int.reduceNeg,Int.reduceToNat,encQ]
   refine ⟨fun h=>?_,fun h=>?_⟩
   ·have:cols.all (isCol c q) = false:=by rw [List.all_eq_false]; exact ⟨_,List.getElem_mem hk,by simp [h]⟩
    rw [hno (by rw [hexR,this]; rfl)]; rfl
   ·rw [wrap64 (n:=(k:Int) + 1) (by omega) (by omega)]
    refine next_at [some 0,some 1] (k + 1) ⟨by omega, ?_⟩ (by omega) rfl ?_ ?_
    ·rw [List.take_succ_eq_append_getElem hk,List.all_append,hka,List.all_cons,h]; rfl
    ·(try simp -implicitDefEqProofs only [push_cast,Nat.reduceAdd,Nat.reduceSub,Nat.reduceMul,Nat.reduceLT,Nat.reduceLeDiff,Nat.reduceEqDiff,Nat.reduceBEq,reduceCtorEq,reduceIte,Int.reduceLE,Int.reduceLT,Int.reduceNeg,Int.reduceToNat,encDs_pure,encEs_pure,encIs_pure,encQ])
    ·(try simp -implicitDefEqProofs only [push_cast,Nat.reduceAdd,Nat.reduceSub,Nat.reduceMul,Nat.reduceLT,Nat.reduceLeDiff,Nat.reduceEqDiff,Nat.reduceBEq,reduceCtorEq,reduceIte,Int.reduceLE,Int.reduceLT,Int.reduceNeg,Int.reduceToNat,encDs_pure,encEs_pure,encIs_pure,encQ])
  ·have hk':((k:Int) < (cols.length:Int)) = False:=by simp; omega
   obtain rfl:k = cols.length:=by omega
   rw [List.take_length] at hka
   simp -implicitDefEqProofs only [push_cast,Nat.reduceAdd,Nat.reduceSub,Nat.reduceMul,Nat.reduceLT,Nat.reduceLeDiff,Nat.reduceEqDiff,Nat.reduceBEq,reduceCtorEq,reduceIte,Int.reduceLE,Int.reduceLT,Int.reduceNeg,Int.reduceToNat,hk',encQ]
   refine ⟨fun h=>?_,fun h=>?_⟩
   ·rw [hno (by rw [hexR,decide_eq_true (show cols.length = 0 by omega)]; simp)]; rfl
   ·rw [wrap64 (n:=(i:Int) + 1) (by omega) (by omega)]
    refine next_at [some 0,some 1] (i + 1) ⟨by omega,hyes ?_⟩ (by omega) rfl ?_ ?_
    ·rw [hexR,hka,decide_eq_false (show ¬ cols.length = 0 by omega)]; rfl
    ·(try simp -implicitDefEqProofs only [push_cast,Nat.reduceAdd,Nat.reduceSub,Nat.reduceMul,Nat.reduceLT,Nat.reduceLeDiff,Nat.reduceEqDiff,Nat.reduceBEq,reduceCtorEq,reduceIte,Int.reduceLE,Int.reduceLT,Int.reduceNeg,Int.reduceToNat,encDs_pure,encEs_pure,encIs_pure,encQ])
    ·(try simp -implicitDefEqProofs only [push_cast,Nat.reduceAdd,Nat.reduceSub,Nat.reduceMul,Nat.reduceLT,Nat.reduceLeDiff,Nat.reduceEqDiff,Nat.reduceBEq,reduceCtorEq,reduceIte,Int.reduceLE,Int.reduceLT,Int.reduceNeg,Int.reduceToNat,encDs_pure,encEs_pure,encIs_pure,encQ])
 have hi':((i:Int) < (q.p.length:Int)) = False:=by simp; omega
 obtain rfl:i = q.p.length:=by omega
 rw [List.take_length] at hia
 rw [hia,Bool.true_and]
 simp -implicitDefEqProofs only [push_cast,Nat.reduceAdd,Nat.reduceSub,Nat.reduceMul,Nat.reduceLT,Nat.reduceLeDiff,Nat.reduceEqDiff,Nat.reduceBEq,reduceCtorEq,reduceIte,Int.reduceLE,Int.reduceLT,Int.reduceNeg,Int.reduceToNat,hi',encQ]
 clear hia hi hi' hi2
 refine loop_at hs (σ:=Nat) (fun i=>i ≤ q.out.length ∧ (List.range i).all (outR c q) = true) (fun i=>q.out.length - i)
  (fun i=>[(11, .int i),(2, .ptr (H.nxt + 0) 1 0 0),(3, .ptr (H.nxt + 1) 6 0 0)]) (fun i=>[some (.cells 1 [[.sl (c.map encD)]] 0),some (.cells 6 [encQ q] 0)]) [some 0,some 1] 0 ⟨by omega,rfl⟩ rfl ?_ ?_ ?_
 ·(try simp -implicitDefEqProofs only [push_cast,Nat.reduceAdd,Nat.reduceSub,Nat.reduceMul,Nat.reduceLT,Nat.reduceLeDiff,Nat.reduceEqDiff,Nat.reduceBEq,reduceCtorEq,reduceIte,Int.reduceLE,Int.reduceLT,Int.reduceNeg,Int.reduceToNat,encDs_pure,encEs_pure,encIs_pure,encQ])
 ·(try simp -implicitDefEqProofs only [push_cast,Nat.reduceAdd,Nat.reduceSub,Nat.reduceMul,Nat.reduceLT,Nat.reduceLeDiff,Nat.reduceEqDiff,Nat.reduceBEq,reduceCtorEq,reduceIte,Int.reduceLE,Int.reduceLT,Int.reduceNeg,Int.reduceToNat,encDs_pure,encEs_pure,encIs_pure,encQ])
 rintro i ⟨hi2,hia⟩
 by_cases hi:i < q.out.length
 ·have hi':((i:Int) < (q.out.length:Int)) = True:=by simp; omega
  have hi0:(0 ≤ (i:Int)) = True:=by simp
  simp -implicitDefEqProofs only [push_cast,Nat.reduceAdd,Nat.reduceSub,Nat.reduceMul,Nat.reduceLT,Nat.reduceLeDiff,Nat.reduceEqDiff,Nat.reduceBEq,reduceCtorEq,reduceIte,Int.reduceLE,Int.reduceLT,Int.reduceNeg,Int.reduceToNat,hi',hi0,encQ]
  refine areg_at 9 (by kernel_rfl) (by kernel_rfl) ?_
  simp -implicitDefEqProofs only [push_cast,Nat.reduceAdd,Nat.reduceSub,Nat.reduceMul,Nat.reduceLT,Nat.reduceLeDiff,Nat.reduceEqDiff,Nat.reduceBEq,reduceCtorEq,reduceIte,Int.reduceLE,Int.reduceLT,Int.reduceNeg,Int.reduceToNat,hi',hi0,encIs_get q.out i hi,encI,encQ]
  refine ahdq (hcol q.out[i] (hin1 _ (List.getElem_mem hi))) ?_
  simp -implicitDefEqProofs only [push_cast,Nat.reduceAdd,Nat.reduceSub,Nat.reduceMul,Nat.reduceLT,Nat.reduceLeDiff,Nat.reduceEqDiff,Nat.reduceBEq,reduceCtorEq,reduceIte,Int.reduceLE,Int.reduceLT,Int.reduceNeg,Int.reduceToNat,encQ]
  refine areg_at 14 (by kernel_rfl) (by kernel_rfl) ?_
  simp -implicitDefEqProofs only [push_cast,Nat.reduceAdd,Nat.reduceSub,Nat.reduceMul,Nat.reduceLT,Nat.reduceLeDiff,Nat.reduceEqDiff,Nat.reduceBEq,reduceCtorEq,reduceIte,Int.reduceLE,Int.reduceLT,Int.reduceNeg,Int.reduceToNat,hi',hi0,encIs_get q.out i hi,encI,encQ]
  refine gcallq (.int (idx (fun x=>decide (q.out[i] = x)) q.out)) (fun _=>Place_ok _ hT _) ?_
  simp -implicitDefEqProofs only [push_cast,Nat.reduceAdd,Nat.reduceSub,Nat.reduceMul,Nat.reduceLT,Nat.reduceLeDiff,Nat.reduceEqDiff,Nat.reduceBEq,reduceCtorEq,reduceIte,Int.reduceLE,Int.reduceLT,Int.reduceNeg,Int.reduceToNat,encQ]
  have hg:q.out.getD i 0 = q.out[i]:=by rw [List.getD_eq_getElem?_getD,List.getElem?_eq_getElem hi]; rfl
  have ho:outR c q i = !(!isCol c q q.out[i] || !decide (idx (fun x=>decide (q.out[i] = x)) q.out = i)):=by
   rw [outR,hg,Bool.not_or,Bool.not_not,Bool.not_not]
  refine ⟨fun h=>?_,fun h=>?_⟩
  ·have:(List.range q.out.length).all (outR c q) = false:=by rw [List.all_eq_false]; exact ⟨i,List.mem_range.2 hi,by rw [ho,h]; simp⟩
   rw [this]; rfl
  ·rw [wrap64 (n:=(i:Int) + 1) (by omega) (by omega)]
   refine next_at [some 0,some 1] (i + 1) ⟨by omega, ?_⟩ (by omega) rfl ?_ ?_
   ·rw [List.range_succ,List.all_append,hia,List.all_cons,ho,h]; rfl
   ·(try simp -implicitDefEqProofs only [push_cast,Nat.reduceAdd,Nat.reduceSub,Nat.reduceMul,Nat.reduceLT,Nat.reduceLeDiff,Nat.reduceEqDiff,Nat.reduceBEq,reduceCtorEq,reduceIte,Int.reduceLE,Int.reduceLT,Int.reduceNeg,Int.reduceToNat,encDs_pure,encEs_pure,encIs_pure,encQ])
   ·(try simp -implicitDefEqProofs only [push_cast,Nat.reduceAdd,Nat.reduceSub,Nat.reduceMul,Nat.reduceLT,Nat.reduceLeDiff,Nat.reduceEqDiff,Nat.reduceBEq,reduceCtorEq,reduceIte,Int.reduceLE,Int.reduceLT,Int.reduceNeg,Int.reduceToNat,encDs_pure,encEs_pure,encIs_pure,encQ])
 have hi':((i:Int) < (q.out.length:Int)) = False:=by simp; omega
 obtain rfl:i = q.out.length:=by omega
 rw [hia,Bool.true_and]
 simp -implicitDefEqProofs only [push_cast,Nat.reduceAdd,Nat.reduceSub,Nat.reduceMul,Nat.reduceLT,Nat.reduceLeDiff,Nat.reduceEqDiff,Nat.reduceBEq,reduceCtorEq,reduceIte,Int.reduceLE,Int.reduceLT,Int.reduceNeg,Int.reduceToNat,hi',encQ]
 clear hia hi hi' hi2
 refine loop_at hs (σ:=Nat) (fun i=>i ≤ q.sums.length ∧ (q.sums.take i).all (isCol c q) = true) (fun i=>q.sums.length - i)
  (fun i=>[(13, .int i),(2, .ptr (H.nxt + 0) 1 0 0),(3, .ptr (H.nxt + 1) 6 0 0)]) (fun i=>[some (.cells 1 [[.sl (c.map encD)]] 0),some (.cells 6 [encQ q] 0)]) [some 0,some 1] 0 ⟨by omega,rfl⟩ rfl ?_ ?_ ?_
 ·(try simp -implicitDefEqProofs only [push_cast,Nat.reduceAdd,Nat.reduceSub,Nat.reduceMul,Nat.reduceLT,Nat.reduceLeDiff,Nat.reduceEqDiff,Nat.reduceBEq,reduceCtorEq,reduceIte,Int.reduceLE,Int.reduceLT,Int.reduceNeg,Int.reduceToNat,encDs_pure,encEs_pure,encIs_pure,encQ])
 ·(try simp -implicitDefEqProofs only [push_cast,Nat.reduceAdd,Nat.reduceSub,Nat.reduceMul,Nat.reduceLT,Nat.reduceLeDiff,Nat.reduceEqDiff,Nat.reduceBEq,reduceCtorEq,reduceIte,Int.reduceLE,Int.reduceLT,Int.reduceNeg,Int.reduceToNat,encDs_pure,encEs_pure,encIs_pure,encQ])
 rintro i ⟨hi2,hia⟩
 by_cases hi:i < q.sums.length
 ·have hi':((i:Int) < (q.sums.length:Int)) = True:=by simp; omega
  have hi0:(0 ≤ (i:Int)) = True:=by simp
  simp -implicitDefEqProofs only [push_cast,Nat.reduceAdd,Nat.reduceSub,Nat.reduceMul,Nat.reduceLT,Nat.reduceLeDiff,Nat.reduceEqDiff,Nat.reduceBEq,reduceCtorEq,reduceIte,Int.reduceLE,Int.reduceLT,Int.reduceNeg,Int.reduceToNat,hi',hi0,encQ]
  refine areg_at 9 (by kernel_rfl) (by kernel_rfl) ?_
  simp -implicitDefEqProofs only [push_cast,Nat.reduceAdd,Nat.reduceSub,Nat.reduceMul,Nat.reduceLT,Nat.reduceLeDiff,Nat.reduceEqDiff,Nat.reduceBEq,reduceCtorEq,reduceIte,Int.reduceLE,Int.reduceLT,Int.reduceNeg,Int.reduceToNat,hi',hi0,encIs_get q.sums i hi,encI,encQ]
  refine ahdq (hcol q.sums[i] (hin2 _ (List.getElem_mem hi))) ?_
  simp -implicitDefEqProofs only [push_cast,Nat.reduceAdd,Nat.reduceSub,Nat.reduceMul,Nat.reduceLT,Nat.reduceLeDiff,Nat.reduceEqDiff,Nat.reduceBEq,reduceCtorEq,reduceIte,Int.reduceLE,Int.reduceLT,Int.reduceNeg,Int.reduceToNat,encQ]
  refine ⟨fun h=>?_,fun h=>?_⟩
  ·have:q.sums.all (isCol c q) = false:=by rw [List.all_eq_false]; exact ⟨_,List.getElem_mem hi,by simp [h]⟩
   rw [this]; rfl
  ·rw [wrap64 (n:=(i:Int) + 1) (by omega) (by omega)]
   refine next_at [some 0,some 1] (i + 1) ⟨by omega, ?_⟩ (by omega) rfl ?_ ?_
   ·rw [List.take_succ_eq_append_getElem hi,List.all_append,hia,List.all_cons,h]; rfl
   ·(try simp -implicitDefEqProofs only [push_cast,Nat.reduceAdd,Nat.reduceSub,Nat.reduceMul,Nat.reduceLT,Nat.reduceLeDiff,Nat.reduceEqDiff,Nat.reduceBEq,reduceCtorEq,reduceIte,Int.reduceLE,Int.reduceLT,Int.reduceNeg,Int.reduceToNat,encDs_pure,encEs_pure,encIs_pure,encQ])
   ·(try simp -implicitDefEqProofs only [push_cast,Nat.reduceAdd,Nat.reduceSub,Nat.reduceMul,Nat.reduceLT,Nat.reduceLeDiff,Nat.reduceEqDiff,Nat.reduceBEq,reduceCtorEq,reduceIte,Int.reduceLE,Int.reduceLT,Int.reduceNeg,Int.reduceToNat,encDs_pure,encEs_pure,encIs_pure,encQ])
 have hi':((i:Int) < (q.sums.length:Int)) = False:=by simp; omega
 obtain rfl:i = q.sums.length:=by omega
 rw [List.take_length] at hia
 rw [hia,Bool.true_and]
 by_cases hby:q.by_ = -1
 ·simp -implicitDefEqProofs only [push_cast,Nat.reduceAdd,Nat.reduceSub,Nat.reduceMul,Nat.reduceLT,Nat.reduceLeDiff,Nat.reduceEqDiff,Nat.reduceBEq,reduceCtorEq,reduceIte,Int.reduceLE,Int.reduceLT,Int.reduceNeg,Int.reduceToNat,hi',encQ,hby]
  refine gcallq' (.int (idx (fun x=>decide (q.ord = x)) q.out)) (fun h=>by simpa using h) (fun _=>Place_ok _ hT _) ?_
  simp -implicitDefEqProofs only [push_cast,Nat.reduceAdd,Nat.reduceSub,Nat.reduceMul,Nat.reduceLT,Nat.reduceLeDiff,Nat.reduceEqDiff,Nat.reduceBEq,reduceCtorEq,reduceIte,Int.reduceLE,Int.reduceLT,Int.reduceNeg,Int.reduceToNat,encQ]
  refine ⟨fun h1 h2=>by rw [h1]; simpa using h2, ?_⟩
  have a1:decide ((q.sums.length:Int) = 0) = decide (q.sums.length = 0):=by rw [decide_eq_decide]; omega
  have a2:decide ((0:Int) < (q.out.length:Int)) = decide (0 < q.out.length):=by rw [decide_eq_decide]; omega
  rw [a1,a2,endR,if_pos hby]
 ·have hby':decide (q.by_ = -1) = false:=by simpa using hby
  simp -implicitDefEqProofs only [push_cast,Nat.reduceAdd,Nat.reduceSub,Nat.reduceMul,Nat.reduceLT,Nat.reduceLeDiff,Nat.reduceEqDiff,Nat.reduceBEq,reduceCtorEq,reduceIte,Int.reduceLE,Int.reduceLT,Int.reduceNeg,Int.reduceToNat,hi',encQ,hby']
  refine callq (hcol q.by_ hin3) ?_
  simp -implicitDefEqProofs only [push_cast,Nat.reduceAdd,Nat.reduceSub,Nat.reduceMul,Nat.reduceLT,Nat.reduceLeDiff,Nat.reduceEqDiff,Nat.reduceBEq,reduceCtorEq,reduceIte,Int.reduceLE,Int.reduceLT,Int.reduceNeg,Int.reduceToNat,encQ]
  refine ⟨fun h1 h2=>by rw [h1]; simpa using h2, ?_⟩
  have a2:decide ((q.out.length:Int) = 0) = decide (q.out.length = 0):=by rw [decide_eq_decide]; omega
  rw [a2,endR,if_neg hby]
end
section
attribute [local push_cast] encE_mk encE_take encE_len encV encE_one encEs_pure encE_pure
def colsUp (c:List Df) (q:Qy) (s:Int) (k:Nat):List Int:=(upto k).filter fun id=>isCol c q id && bitI s (id / 4).toNat
theorem colsUp_yes (c:List Df) (q:Qy) (s:Int) (k:Nat) (h:(isCol c q k && bitI s (k / 4)) = true):colsUp c q s (k + 1) = colsUp c q s k ++ [(k:Int)]:=by
 rw [colsUp,upto_snoc,List.filter_append,List.filter_cons,if_pos (by rw [← h]; congr 2),List.filter_nil]
 rfl
theorem colsUp_no (c:List Df) (q:Qy) (s:Int) (k:Nat) (h:(isCol c q k && bitI s (k / 4)) = false):colsUp c q s (k + 1) = colsUp c q s k:=by
 have h':(isCol c q k && bitI s ((k:Int) / 4).toNat) = false:=by rw [← h]; congr 2
 rw [colsUp,upto_snoc,List.filter_append,List.filter_cons,if_neg (by rw [h']; decide),List.filter_nil,List.append_nil]
 rfl
theorem colsUp_zero (c:List Df) (q:Qy) (s:Int):colsUp c q s 0 = []:=rfl
theorem colsUp_len (c:List Df) (q:Qy) (s:Int) (k:Nat):(colsUp c q s k).length ≤ k:=Nat.le_trans (List.length_filter_le _ _) (by rw [upto_len]; omega)
theorem ColsRQ_ok (c:List Df) (hcl:c.length ≤ 1000000) (q:Qy) (hq:q.Ok) (hin:q.In) (s:Int):Quiet Go.Proofs.Tryz.prog 100 [.agg [.sl (c.map encD)], .agg (encQ q), .int s] (.sl ((q.cols c s).map encI)):=by
 have hm:=MayRQ_ok c hcl q hq hin
 have hcol:∀ id,In64 id → Quiet Go.Proofs.Tryz.prog 133 [.agg [.sl (c.map encD)], .agg (encQ q), .int id] (.bool (isCol c q id)):=fun id hid=>column_ok c hcl q hq.2.2.1 id hid
 simp only [encQ] at hm hcol
 refine quiet_of (rs:=#[.tmp 6]) Go.Proofs.Tryz.func100 rfl rfl rfl mixed rfl rfl fun H hs=>?_
 simp -implicitDefEqProofs only [push_cast,Nat.reduceAdd,Nat.reduceSub,Nat.reduceMul,Nat.reduceLT,Nat.reduceLeDiff,Nat.reduceEqDiff,Nat.reduceBEq,reduceCtorEq,reduceIte,Int.reduceLE,Int.reduceLT,Int.reduceNeg,Int.reduceToNat,encQ]
 refine callq hm ?_
 simp -implicitDefEqProofs only [push_cast,Nat.reduceAdd,Nat.reduceSub,Nat.reduceMul,Nat.reduceLT,Nat.reduceLeDiff,Nat.reduceEqDiff,Nat.reduceBEq,reduceCtorEq,reduceIte,Int.reduceLE,Int.reduceLT,Int.reduceNeg,Int.reduceToNat,encQ]
 cases hmay:q.may c
 ·have h0:q.cols c s = []:=by rw [Qy.cols,hmay]; rfl
  refine loop_at hs (σ:=Nat) (fun i=>i = 0) (fun i=>0) (fun i=>[(9, .int i),(8, .bool false),(7, .nilS)]) (fun i=>[]) [] 0 rfl rfl ?_ ?_ ?_
  ·(try simp -implicitDefEqProofs only [push_cast,Nat.reduceAdd,Nat.reduceSub,Nat.reduceMul,Nat.reduceLT,Nat.reduceLeDiff,Nat.reduceEqDiff,Nat.reduceBEq,reduceCtorEq,reduceIte,Int.reduceLE,Int.reduceLT,Int.reduceNeg,Int.reduceToNat])
  ·(try simp -implicitDefEqProofs only [push_cast,Nat.reduceAdd,Nat.reduceSub,Nat.reduceMul,Nat.reduceLT,Nat.reduceLeDiff,Nat.reduceEqDiff,Nat.reduceBEq,reduceCtorEq,reduceIte,Int.reduceLE,Int.reduceLT,Int.reduceNeg,Int.reduceToNat])
  rintro i rfl
  simp -implicitDefEqProofs only [push_cast,Nat.reduceAdd,Nat.reduceSub,Nat.reduceMul,Nat.reduceLT,Nat.reduceLeDiff,Nat.reduceEqDiff,Nat.reduceBEq,reduceCtorEq,reduceIte,Int.reduceLE,Int.reduceLT,Int.reduceNeg,Int.reduceToNat]
  (try simp -implicitDefEqProofs only [push_cast,Nat.reduceAdd,Nat.reduceSub,Nat.reduceMul,Nat.reduceLT,Nat.reduceLeDiff,Nat.reduceEqDiff,Nat.reduceBEq,reduceCtorEq,reduceIte,Int.reduceLE,Int.reduceLT,Int.reduceNeg,Int.reduceToNat,h0,List.map_nil])
 ·refine loop_at hs (σ:=Nat) (fun i=>i ≤ 16) (fun i=>16 - i)
   (fun i=>[(9, .int i),(8, .bool true),(2, .int s),(3, .ptr (H.nxt + 0) 1 0 0),(4, .ptr (H.nxt + 1) 6 0 0),(7, .rsl (H.nxt + 2) 1 0 (colsUp c q s i).length)]) (fun i=>[some (.cells 1 [[.sl (c.map encD)]] 0),some (.cells 6 [encQ q] 0),some (.cells 1 (rowI (colsUp c q s i)) 0)]) [some 0,some 1,none] 0 (by omega) rfl ?_ ?_ ?_
  ·(try simp -implicitDefEqProofs only [push_cast,Nat.reduceAdd,Nat.reduceSub,Nat.reduceMul,Nat.reduceLT,Nat.reduceLeDiff,Nat.reduceEqDiff,Nat.reduceBEq,reduceCtorEq,reduceIte,Int.reduceLE,Int.reduceLT,Int.reduceNeg,Int.reduceToNat,colsUp_zero,rowI_nil,encDs_pure,encEs_pure,encIs_pure,encQ])
  ·(try simp -implicitDefEqProofs only [push_cast,Nat.reduceAdd,Nat.reduceSub,Nat.reduceMul,Nat.reduceLT,Nat.reduceLeDiff,Nat.reduceEqDiff,Nat.reduceBEq,reduceCtorEq,reduceIte,Int.reduceLE,Int.reduceLT,Int.reduceNeg,Int.reduceToNat,colsUp_zero,rowI_nil,encDs_pure,encEs_pure,encIs_pure,encQ])
  intro i hi2
  have hlen:=colsUp_len c q s i
  by_cases hi:i < 16
  ·have hi':((i:Int) < 16) = True:=by simp; omega
   have hq4:IntKind.wrap .i64 (Int.tdiv (i:Int) 4) = ((i / 4:Nat):Int):=by rw [Int.tdiv_eq_ediv_of_nonneg (by omega),wrap64 (by omega) (by omega)]; omega
   simp -implicitDefEqProofs only [push_cast,Nat.reduceAdd,Nat.reduceSub,Nat.reduceMul,Nat.reduceLT,Nat.reduceLeDiff,Nat.reduceEqDiff,Nat.reduceBEq,reduceCtorEq,reduceIte,Int.reduceLE,Int.reduceLT,Int.reduceNeg,Int.reduceToNat,hi',encQ]
   refine callq (hcol i (by unfold In64; omega)) ?_
   simp -implicitDefEqProofs only [push_cast,Nat.reduceAdd,Nat.reduceSub,Nat.reduceMul,Nat.reduceLT,Nat.reduceLeDiff,Nat.reduceEqDiff,Nat.reduceBEq,reduceCtorEq,reduceIte,Int.reduceLE,Int.reduceLT,Int.reduceNeg,Int.reduceToNat,hi',hq4,encQ]
   refine ⟨by decide,callq (Bit_ok s (i / 4) (by omega)) ?_⟩
   simp -implicitDefEqProofs only [push_cast,Nat.reduceAdd,Nat.reduceSub,Nat.reduceMul,Nat.reduceLT,Nat.reduceLeDiff,Nat.reduceEqDiff,Nat.reduceBEq,reduceCtorEq,reduceIte,Int.reduceLE,Int.reduceLT,Int.reduceNeg,Int.reduceToNat,hi',hq4,encQ]
   refine ⟨fun h=>⟨by omega, ?_⟩,fun h=>?_⟩
   ·rw [wrap64 (n:=(i:Int) + 1) (by omega) (by omega)]
    refine next_at [some 0,some 1,some 4] (i + 1) (by omega) (by omega) rfl ?_ ?_
    ·(try simp -implicitDefEqProofs only [push_cast,Nat.reduceAdd,Nat.reduceSub,Nat.reduceMul,Nat.reduceLT,Nat.reduceLeDiff,Nat.reduceEqDiff,Nat.reduceBEq,reduceCtorEq,reduceIte,Int.reduceLE,Int.reduceLT,Int.reduceNeg,Int.reduceToNat,colsUp_yes c q s i h,encDs_pure,encEs_pure,encIs_pure,encQ])
    ·(try simp -implicitDefEqProofs only [push_cast,Nat.reduceAdd,Nat.reduceSub,Nat.reduceMul,Nat.reduceLT,Nat.reduceLeDiff,Nat.reduceEqDiff,Nat.reduceBEq,reduceCtorEq,reduceIte,Int.reduceLE,Int.reduceLT,Int.reduceNeg,Int.reduceToNat,colsUp_yes c q s i h,take_rowI _ _ (Nat.le_refl _),snocI,rowI_pure,rowI_one,encDs_pure,encEs_pure,encIs_pure,encQ])
   ·rw [wrap64 (n:=(i:Int) + 1) (by omega) (by omega)]
    refine next_at [some 0,some 1,some 2] (i + 1) (by omega) (by omega) rfl ?_ ?_
    ·(try simp -implicitDefEqProofs only [push_cast,Nat.reduceAdd,Nat.reduceSub,Nat.reduceMul,Nat.reduceLT,Nat.reduceLeDiff,Nat.reduceEqDiff,Nat.reduceBEq,reduceCtorEq,reduceIte,Int.reduceLE,Int.reduceLT,Int.reduceNeg,Int.reduceToNat,colsUp_no c q s i h,encDs_pure,encEs_pure,encIs_pure,encQ])
    ·(try simp -implicitDefEqProofs only [push_cast,Nat.reduceAdd,Nat.reduceSub,Nat.reduceMul,Nat.reduceLT,Nat.reduceLeDiff,Nat.reduceEqDiff,Nat.reduceBEq,reduceCtorEq,reduceIte,Int.reduceLE,Int.reduceLT,Int.reduceNeg,Int.reduceToNat,colsUp_no c q s i h,rowI_pure,rowI_one,encDs_pure,encEs_pure,encIs_pure,encQ])
  ·have hi':((i:Int) < 16) = False:=by simp; omega
   have h16:q.cols c s = colsUp c q s i:=by
    rw [show i = 16 by omega,Qy.cols,if_pos hmay,colsUp,colsIn]
   simp -implicitDefEqProofs only [push_cast,Nat.reduceAdd,Nat.reduceSub,Nat.reduceMul,Nat.reduceLT,Nat.reduceLeDiff,Nat.reduceEqDiff,Nat.reduceBEq,reduceCtorEq,reduceIte,Int.reduceLE,Int.reduceLT,Int.reduceNeg,Int.reduceToNat,hi',encQ]
   (try simp -implicitDefEqProofs only [push_cast,Nat.reduceAdd,Nat.reduceSub,Nat.reduceMul,Nat.reduceLT,Nat.reduceLeDiff,Nat.reduceEqDiff,Nat.reduceBEq,reduceCtorEq,reduceIte,Int.reduceLE,Int.reduceLT,Int.reduceNeg,Int.reduceToNat])
   rw [h16,take_rowI _ _ (Nat.le_refl _)]
   exact sealLL_pure _ _ _ (encIs_pure _)
theorem PairsR_ok (q:Qy) (hq:q.Ok) (a b:Int):Quiet Go.Proofs.Tryz.prog 105 [.agg (encQ q), .int a, .int b] (.sl ((q.pairs a b).map encP)):=by
 have hn:=NewR_ok q hq a b
 have hnl:(q.new a b).length ≤ 1000000:=Nat.le_trans (idxF_lt _ _) hq.1
 have hnm:∀ i ∈ q.new a b,0 ≤ i ∧ i < q.p.length:=fun i hi=>by rw [Qy.new,idxF_mem] at hi; omega
 rw [Qy.pairs]
 generalize q.new a b = l at hn hnl hnm ⊢
 simp only [encQ] at hn
 refine quiet_of (rs:=#[.tmp 6]) Go.Proofs.Tryz.func105 rfl rfl rfl mixed rfl rfl fun H hs=>?_
 simp -implicitDefEqProofs only [push_cast,Nat.reduceAdd,Nat.reduceSub,Nat.reduceMul,Nat.reduceLT,Nat.reduceLeDiff,Nat.reduceEqDiff,Nat.reduceBEq,reduceCtorEq,reduceIte,Int.reduceLE,Int.reduceLT,Int.reduceNeg,Int.reduceToNat,encQ]
 refine callq hn ?_
 simp -implicitDefEqProofs only [push_cast,Nat.reduceAdd,Nat.reduceSub,Nat.reduceMul,Nat.reduceLT,Nat.reduceLeDiff,Nat.reduceEqDiff,Nat.reduceBEq,reduceCtorEq,reduceIte,Int.reduceLE,Int.reduceLT,Int.reduceNeg,Int.reduceToNat,encQ]
 refine loop_at hs (σ:=Nat) (fun i=>i ≤ l.length) (fun i=>l.length - i)
  (fun i=>[(9, .int i),(8, .sl (l.map encI)),(3, .ptr (H.nxt + 0) 6 0 0),(1, .int a),(2, .int b),(7, .rsl (H.nxt + 1) 2 0 (pairsF a b q.p (l.take i)).length)]) (fun i=>[some (.cells 6 [encQ q] 0),some (.cells 2 (rowP (pairsF a b q.p (l.take i))) 0)]) [some 0,none] 0 (by omega) rfl ?_ ?_ ?_
 ·(try simp -implicitDefEqProofs only [push_cast,Nat.reduceAdd,Nat.reduceSub,Nat.reduceMul,Nat.reduceLT,Nat.reduceLeDiff,Nat.reduceEqDiff,Nat.reduceBEq,reduceCtorEq,reduceIte,Int.reduceLE,Int.reduceLT,Int.reduceNeg,Int.reduceToNat,rowP_nil,List.take_zero,encEs_pure,encIs_pure,encQ,pairsF,List.flatMap_nil])
 ·(try simp -implicitDefEqProofs only [push_cast,Nat.reduceAdd,Nat.reduceSub,Nat.reduceMul,Nat.reduceLT,Nat.reduceLeDiff,Nat.reduceEqDiff,Nat.reduceBEq,reduceCtorEq,reduceIte,Int.reduceLE,Int.reduceLT,Int.reduceNeg,Int.reduceToNat,rowP_nil,List.take_zero,encEs_pure,encIs_pure,encQ,pairsF,List.flatMap_nil])
 intro i hi2
 by_cases hi:i < l.length
 ·have hi':((i:Int) < (l.length:Int)) = True:=by simp; omega
  have hi0:(0 ≤ (i:Int)) = True:=by simp
  obtain ⟨h0,h1⟩:=hnm _ (List.getElem_mem hi)
  obtain ⟨k,hk⟩:∃ k:Nat,l[i] = k:=⟨l[i].toNat,by omega⟩
  have hkl:k < q.p.length:=by omega
  have hk0:(0 ≤ (k:Int)) = True:=by simp
  have hk':((k:Int) < (q.p.length:Int)) = True:=by simp; omega
  have hok:=hq.2.1 _ (List.getElem_mem hkl)
  have hge:q.p.getD l[i].toNat exO = q.p[k]:=by
   rw [hk,Int.toNat_natCast,List.getD_eq_getElem?_getD,List.getElem?_eq_getElem hkl]; rfl
  have hps:=pairsF_take a b q.p l i hi
  rw [hge] at hps
  have hpl:(pairsF a b q.p (l.take i)).length ≤ 1000000:=by
   refine Nat.le_trans (flat_len _ _ fun x _=>pairOf_len _ _ _) ?_
   rw [List.length_take]; omega
  simp -implicitDefEqProofs only [push_cast,Nat.reduceAdd,Nat.reduceSub,Nat.reduceMul,Nat.reduceLT,Nat.reduceLeDiff,Nat.reduceEqDiff,Nat.reduceBEq,reduceCtorEq,reduceIte,Int.reduceLE,Int.reduceLT,Int.reduceNeg,Int.reduceToNat,hi',hi0,encQ]
  refine areg_at 15 (by kernel_rfl) (by kernel_rfl) ?_
  simp -implicitDefEqProofs only [push_cast,Nat.reduceAdd,Nat.reduceSub,Nat.reduceMul,Nat.reduceLT,Nat.reduceLeDiff,Nat.reduceEqDiff,Nat.reduceBEq,reduceCtorEq,reduceIte,Int.reduceLE,Int.reduceLT,Int.reduceNeg,Int.reduceToNat,hi',hi0,encIs_get l i hi,encI,hk,hk0,hk',encEs_get q.p k hkl,encQ]
  refine ahdq (PairR_ok _ hok.1) ?_
  simp -implicitDefEqProofs only [push_cast,Nat.reduceAdd,Nat.reduceSub,Nat.reduceMul,Nat.reduceLT,Nat.reduceLeDiff,Nat.reduceEqDiff,Nat.reduceBEq,reduceCtorEq,reduceIte,Int.reduceLE,Int.reduceLT,Int.reduceNeg,Int.reduceToNat,encQ]
  refine ⟨fun his=>?_,fun his=>?_⟩
  ·have hp0:pairOf a b q.p[k] = []:=by rw [pairOf,if_neg (by simp [his])]
   rw [hp0,List.append_nil] at hps
   rw [wrap64 (n:=(i:Int) + 1) (by omega) (by omega)]
   refine next_at [some 0,some 1] (i + 1) (by omega) (by omega) rfl ?_ ?_
   ·(try simp -implicitDefEqProofs only [push_cast,Nat.reduceAdd,Nat.reduceSub,Nat.reduceMul,Nat.reduceLT,Nat.reduceLeDiff,Nat.reduceEqDiff,Nat.reduceBEq,reduceCtorEq,reduceIte,Int.reduceLE,Int.reduceLT,Int.reduceNeg,Int.reduceToNat,hps,encEs_pure,encIs_pure,encQ])
   ·(try simp -implicitDefEqProofs only [push_cast,Nat.reduceAdd,Nat.reduceSub,Nat.reduceMul,Nat.reduceLT,Nat.reduceLeDiff,Nat.reduceEqDiff,Nat.reduceBEq,reduceCtorEq,reduceIte,Int.reduceLE,Int.reduceLT,Int.reduceNeg,Int.reduceToNat,hps,encEs_pure,encIs_pure,encQ,rowP_pure,rowP_one])
  ·obtain ⟨_,_,hx,hy,_⟩:=pair_spec his
   have hpo:pairOf a b q.p[k] = if bitC a q.p[k].pair.1 && bitC b q.p[k].pair.2.1 then [(q.p[k].pair.1,q.p[k].pair.2.1)] else if bitC a q.p[k].pair.2.1 && bitC b q.p[k].pair.1 then [(q.p[k].pair.2.1,q.p[k].pair.1)] else []:=by rw [pairOf,if_pos his]
   generalize q.p[k].pair.1 = x at hx hpo ⊢
   generalize q.p[k].pair.2.1 = y at hy hpo ⊢
   generalize pairsF a b q.p (l.take i) = ps at hps hpl ⊢
   obtain ⟨u,hu⟩:∃ u:Nat,x / 4 = u:=⟨(x / 4).toNat,by omega⟩
   obtain ⟨v,hv⟩:∃ v:Nat,y / 4 = v:=⟨(y / 4).toNat,by omega⟩
   have hqx:IntKind.wrap .i64 (Int.tdiv x 4) = (u:Int):=by rw [Int.tdiv_eq_ediv_of_nonneg (by omega),wrap64 (by omega) (by omega),hu]
   have hqy:IntKind.wrap .i64 (Int.tdiv y 4) = (v:Int):=by rw [Int.tdiv_eq_ediv_of_nonneg (by omega),wrap64 (by omega) (by omega),hv]
   have hbx:∀ s,bitC s x = bitI s u:=fun s=>by rw [bitC,hu,Int.toNat_natCast]
   have hby:∀ s,bitC s y = bitI s v:=fun s=>by rw [bitC,hv,Int.toNat_natCast]
   rw [hbx,hbx,hby,hby] at hpo
   simp -implicitDefEqProofs only [push_cast,Nat.reduceAdd,Nat.reduceSub,Nat.reduceMul,Nat.reduceLT,Nat.reduceLeDiff,Nat.reduceEqDiff,Nat.reduceBEq,reduceCtorEq,reduceIte,Int.reduceLE,Int.reduceLT,Int.reduceNeg,Int.reduceToNat,encQ,hqx,hqy]
   refine ⟨by decide,callq (Bit_ok a u (by omega)) ?_⟩
   simp -implicitDefEqProofs only [push_cast,Nat.reduceAdd,Nat.reduceSub,Nat.reduceMul,Nat.reduceLT,Nat.reduceLeDiff,Nat.reduceEqDiff,Nat.reduceBEq,reduceCtorEq,reduceIte,Int.reduceLE,Int.reduceLT,Int.reduceNeg,Int.reduceToNat,encQ,hqx,hqy]
   refine ⟨by decide,callq (Bit_ok b u (by omega)) ?_⟩
   simp -implicitDefEqProofs only [push_cast,Nat.reduceAdd,Nat.reduceSub,Nat.reduceMul,Nat.reduceLT,Nat.reduceLeDiff,Nat.reduceEqDiff,Nat.reduceBEq,reduceCtorEq,reduceIte,Int.reduceLE,Int.reduceLT,Int.reduceNeg,Int.reduceToNat,encQ,hqx,hqy]
   refine ⟨by decide,callq (Bit_ok a v (by omega)) ?_⟩
   simp -implicitDefEqProofs only [push_cast,Nat.reduceAdd,Nat.reduceSub,Nat.reduceMul,Nat.reduceLT,Nat.reduceLeDiff,Nat.reduceEqDiff,Nat.reduceBEq,reduceCtorEq,reduceIte,Int.reduceLE,Int.reduceLT,Int.reduceNeg,Int.reduceToNat,encQ,hqx,hqy]
   refine ⟨by decide,callq (Bit_ok b v (by omega)) ?_⟩
   simp -implicitDefEqProofs only [push_cast,Nat.reduceAdd,Nat.reduceSub,Nat.reduceMul,Nat.reduceLT,Nat.reduceLeDiff,Nat.reduceEqDiff,Nat.reduceBEq,reduceCtorEq,reduceIte,Int.reduceLE,Int.reduceLT,Int.reduceNeg,Int.reduceToNat,encQ,hqx,hqy]
   refine ⟨fun h=>⟨by omega, ?_⟩,fun h=>⟨fun h2=>⟨by omega, ?_⟩,fun h2=>?_⟩⟩
   ·rw [hpo,h,if_pos rfl] at hps
    rw [wrap64 (n:=(i:Int) + 1) (by omega) (by omega)]
    refine next_at [some 0,some 3] (i + 1) (by omega) (by omega) rfl ?_ ?_
    ·(try simp -implicitDefEqProofs only [push_cast,Nat.reduceAdd,Nat.reduceSub,Nat.reduceMul,Nat.reduceLT,Nat.reduceLeDiff,Nat.reduceEqDiff,Nat.reduceBEq,reduceCtorEq,reduceIte,Int.reduceLE,Int.reduceLT,Int.reduceNeg,Int.reduceToNat,hps,encEs_pure,encIs_pure,encQ])
    ·(try simp -implicitDefEqProofs only [push_cast,Nat.reduceAdd,Nat.reduceSub,Nat.reduceMul,Nat.reduceLT,Nat.reduceLeDiff,Nat.reduceEqDiff,Nat.reduceBEq,reduceCtorEq,reduceIte,Int.reduceLE,Int.reduceLT,Int.reduceNeg,Int.reduceToNat,hps,encEs_pure,encIs_pure,encQ,take_rowP _ _ (Nat.le_refl _),snocP,rowP_pure,rowP_one])
   ·rw [hpo,h,if_neg (by decide),h2,if_pos rfl] at hps
    rw [wrap64 (n:=(i:Int) + 1) (by omega) (by omega)]
    refine next_at [some 0,some 3] (i + 1) (by omega) (by omega) rfl ?_ ?_
    ·(try simp -implicitDefEqProofs only [push_cast,Nat.reduceAdd,Nat.reduceSub,Nat.reduceMul,Nat.reduceLT,Nat.reduceLeDiff,Nat.reduceEqDiff,Nat.reduceBEq,reduceCtorEq,reduceIte,Int.reduceLE,Int.reduceLT,Int.reduceNeg,Int.reduceToNat,hps,encEs_pure,encIs_pure,encQ])
    ·(try simp -implicitDefEqProofs only [push_cast,Nat.reduceAdd,Nat.reduceSub,Nat.reduceMul,Nat.reduceLT,Nat.reduceLeDiff,Nat.reduceEqDiff,Nat.reduceBEq,reduceCtorEq,reduceIte,Int.reduceLE,Int.reduceLT,Int.reduceNeg,Int.reduceToNat,hps,encEs_pure,encIs_pure,encQ,take_rowP _ _ (Nat.le_refl _),snocP,rowP_pure,rowP_one])
   ·rw [hpo,h,if_neg (by decide),h2,if_neg (by decide),List.append_nil] at hps
    rw [wrap64 (n:=(i:Int) + 1) (by omega) (by omega)]
    refine next_at [some 0,some 1] (i + 1) (by omega) (by omega) rfl ?_ ?_
    ·(try simp -implicitDefEqProofs only [push_cast,Nat.reduceAdd,Nat.reduceSub,Nat.reduceMul,Nat.reduceLT,Nat.reduceLeDiff,Nat.reduceEqDiff,Nat.reduceBEq,reduceCtorEq,reduceIte,Int.reduceLE,Int.reduceLT,Int.reduceNeg,Int.reduceToNat,hps,encEs_pure,encIs_pure,encQ])
    ·(try simp -implicitDefEqProofs only [push_cast,Nat.reduceAdd,Nat.reduceSub,Nat.reduceMul,Nat.reduceLT,Nat.reduceLeDiff,Nat.reduceEqDiff,Nat.reduceBEq,reduceCtorEq,reduceIte,Int.reduceLE,Int.reduceLT,Int.reduceNeg,Int.reduceToNat,hps,encEs_pure,encIs_pure,encQ,rowP_pure,rowP_one])
 ·have hi':((i:Int) < (l.length:Int)) = False:=by simp; omega
  have h5:l.take i = l:=List.take_of_length_le (by omega)
  simp -implicitDefEqProofs only [push_cast,Nat.reduceAdd,Nat.reduceSub,Nat.reduceMul,Nat.reduceLT,Nat.reduceLeDiff,Nat.reduceEqDiff,Nat.reduceBEq,reduceCtorEq,reduceIte,Int.reduceLE,Int.reduceLT,Int.reduceNeg,Int.reduceToNat,hi',h5]
  (try simp -implicitDefEqProofs only [push_cast,Nat.reduceAdd,Nat.reduceSub,Nat.reduceMul,Nat.reduceLT,Nat.reduceLeDiff,Nat.reduceEqDiff,Nat.reduceBEq,reduceCtorEq,reduceIte,Int.reduceLE,Int.reduceLT,Int.reduceNeg,Int.reduceToNat])
  rw [take_rowP _ _ (Nat.le_refl _)]
  exact sealLL_pure _ _ _ (rowP_pure _)
end
section
attribute [local push_cast] encE_mk encE_take encE_len encV encE_one encEs_pure encE_pure
theorem BaseR_ok (c:List Df) (hcl:c.length ≤ 1000000) (q:Qy) (hq:q.Ok) (hqi:q.In) (o:Int) (hin:In64 o):Quiet Go.Proofs.Tryz.prog 135 [.agg [.sl (c.map encD)], .agg (encQ q), .int o] (.int (baseR c q o)):=by
 refine quiet_of (rs:=#[.tmp 6]) Go.Proofs.Tryz.func135 rfl rfl rfl mixed rfl rfl fun H hs=>?_
 simp -implicitDefEqProofs only [push_cast,Nat.reduceAdd,Nat.reduceSub,Nat.reduceMul,Nat.reduceLT,Nat.reduceLeDiff,Nat.reduceEqDiff,Nat.reduceBEq,reduceCtorEq,reduceIte,Int.reduceLE,Int.reduceLT,Int.reduceNeg,Int.reduceToNat,encQ]
 refine callq (MayRQ_ok c hcl q hq hqi) ?_
 simp -implicitDefEqProofs only [push_cast,Nat.reduceAdd,Nat.reduceSub,Nat.reduceMul,Nat.reduceLT,Nat.reduceLeDiff,Nat.reduceEqDiff,Nat.reduceBEq,reduceCtorEq,reduceIte,Int.reduceLE,Int.reduceLT,Int.reduceNeg,Int.reduceToNat,encQ]
 have hO:=hq.2.2.1
 by_cases hc:q.may c = true ∧ 0 ≤ o ∧ o < q.occ.length
 ·obtain ⟨hm,h0,h1⟩:=hc
  have hb:baseR c q o = baseQ c q o:=if_pos ⟨hm,h0,h1⟩
  obtain ⟨k,rfl⟩:∃ k:Nat,o = k:=⟨o.toNat,by omega⟩
  have hk:k < q.occ.length:=by omega
  obtain ⟨t,ht,htl,hbq⟩:=base_get hm hk
  have c1:((k:Int) < 0) = False:=by simp
  have c2:((q.occ.length:Int) ≤ (k:Int)) = False:=by simp; omega
  have k0:(0 ≤ (k:Int)) = True:=by simp
  have k1:((k:Int) < (q.occ.length:Int)) = True:=by simp; omega
  have t0:(0 ≤ (t:Int)) = True:=by simp
  have t1:((t:Int) < (c.length:Int)) = True:=by simp; omega
  rw [hb,hbq,hm]
  simp -implicitDefEqProofs only [push_cast,Nat.reduceAdd,Nat.reduceSub,Nat.reduceMul,Nat.reduceLT,Nat.reduceLeDiff,Nat.reduceEqDiff,Nat.reduceBEq,reduceCtorEq,reduceIte,Int.reduceLE,Int.reduceLT,Int.reduceNeg,Int.reduceToNat,c1,c2]
  refine areg_at 11 (by kernel_rfl) (by kernel_rfl) ?_
  simp -implicitDefEqProofs only [push_cast,Nat.reduceAdd,Nat.reduceSub,Nat.reduceMul,Nat.reduceLT,Nat.reduceLeDiff,Nat.reduceEqDiff,Nat.reduceBEq,reduceCtorEq,reduceIte,Int.reduceLE,Int.reduceLT,Int.reduceNeg,Int.reduceToNat,encQ,k0,k1,encIs_get q.occ k hk,encI,ht,t0,t1,encDs_get c t htl,encD]
 ·have hb:baseR c q o = 0:=if_neg hc
  have hcond:(!q.may c || decide (o < 0) || decide ((q.occ.length:Int) ≤ o)) = true:=by
   rcases Bool.eq_false_or_eq_true (!q.may c || decide (o < 0) || decide ((q.occ.length:Int) ≤ o)) with h | h
   ·exact h
   exfalso
   simp only [Bool.or_eq_false_iff,Bool.not_eq_false',decide_eq_false_iff_not] at h
   exact hc ⟨h.1.1,by omega,by omega⟩
  rw [hb]
  simp -implicitDefEqProofs only [push_cast,Nat.reduceAdd,Nat.reduceSub,Nat.reduceMul,Nat.reduceLT,Nat.reduceLeDiff,Nat.reduceEqDiff,Nat.reduceBEq,reduceCtorEq,reduceIte,Int.reduceLE,Int.reduceLT,Int.reduceNeg,Int.reduceToNat,hcond]
theorem RowsR_ok (c:List Df) (hcl:c.length ≤ 1000000) (q:Qy) (hq:q.Ok) (hqi:q.In) (s:Int):Quiet Go.Proofs.Tryz.prog 90 [.agg [.sl (c.map encD)], .agg (encQ q), .int s] (.int (rowsQ c q s)):=by
 have hbase:=fun o=>BaseR_ok c hcl q hq hqi o
 refine quiet_of (rs:=#[.tmp 6]) Go.Proofs.Tryz.func90 rfl rfl rfl mixed rfl rfl fun H hs=>?_
 simp -implicitDefEqProofs only [push_cast,Nat.reduceAdd,Nat.reduceSub,Nat.reduceMul,Nat.reduceLT,Nat.reduceLeDiff,Nat.reduceEqDiff,Nat.reduceBEq,reduceCtorEq,reduceIte,Int.reduceLE,Int.reduceLT,Int.reduceNeg,Int.reduceToNat,encQ]
 refine callq (MayRQ_ok c hcl q hq hqi) ?_
 cases hm:q.may c
 ·have h0:rowsQ c q s = 0:=by rw [rowsQ,hm]; rfl
  rw [h0]
  simp -implicitDefEqProofs only [push_cast,Nat.reduceAdd,Nat.reduceSub,Nat.reduceMul,Nat.reduceLT,Nat.reduceLeDiff,Nat.reduceEqDiff,Nat.reduceBEq,reduceCtorEq,reduceIte,Int.reduceLE,Int.reduceLT,Int.reduceNeg,Int.reduceToNat,encQ]
 obtain ⟨hc,ho1,ho4,hot,hp6,_⟩:=may_split hm
 have hown:=OwnR_ok q hq s
 have hl:(q.own s).length ≤ 8:=Nat.le_trans (idxF_lt _ _) (by omega)
 have hmm:∀ i ∈ q.own s,0 ≤ i ∧ i < q.p.length:=fun i hi=>by rw [Qy.own,idxF_mem] at hi; omega
 have hfr:=fewer_pos q s
 have hti:=TimesR_ok (rowsL c q s) (by rw [rowsL,List.length_map]; exact Nat.le_trans (List.length_filter_le _ _) (by rw [upto_len]; omega)) (rowsL_in hm s)
 have htr:=times_range (rowsL c q s)
 have hrq:rowsQ c q s = max 1 (times (rowsL c q s) / q.fewer s):=by rw [rowsQ,if_pos hm]
 rw [hrq]
 rw [Qy.fewer] at hfr ⊢
 simp only [encQ] at hbase hown
 simp -implicitDefEqProofs only [push_cast,Nat.reduceAdd,Nat.reduceSub,Nat.reduceMul,Nat.reduceLT,Nat.reduceLeDiff,Nat.reduceEqDiff,Nat.reduceBEq,reduceCtorEq,reduceIte,Int.reduceLE,Int.reduceLT,Int.reduceNeg,Int.reduceToNat,encQ]
 refine loop_at hs (σ:=Nat) (fun i=>i ≤ q.occ.length) (fun i=>q.occ.length - i)
  (fun i=>[(9, .int i),(2, .int s),(3, .ptr (H.nxt + 0) 1 0 0),(4, .ptr (H.nxt + 1) 6 0 0),(8, .rsl (H.nxt + 2) 1 0 (rowsTo c q s i).length)]) (fun i=>[some (.cells 1 [[.sl (c.map encD)]] 0),some (.cells 6 [encQ q] 0),some (.cells 1 (rowI (rowsTo c q s i)) 0)]) [some 0,some 1,none] 0 (by omega) rfl ?_ ?_ ?_
 ·(try simp -implicitDefEqProofs only [push_cast,Nat.reduceAdd,Nat.reduceSub,Nat.reduceMul,Nat.reduceLT,Nat.reduceLeDiff,Nat.reduceEqDiff,Nat.reduceBEq,reduceCtorEq,reduceIte,Int.reduceLE,Int.reduceLT,Int.reduceNeg,Int.reduceToNat,rowsTo_zero,rowI_nil,encDs_pure,encEs_pure,encIs_pure,encQ])
 ·(try simp -implicitDefEqProofs only [push_cast,Nat.reduceAdd,Nat.reduceSub,Nat.reduceMul,Nat.reduceLT,Nat.reduceLeDiff,Nat.reduceEqDiff,Nat.reduceBEq,reduceCtorEq,reduceIte,Int.reduceLE,Int.reduceLT,Int.reduceNeg,Int.reduceToNat,rowsTo_zero,rowI_nil,encDs_pure,encEs_pure,encIs_pure,encQ])
 intro i hi2
 have hlen:=rowsTo_len c q s i
 by_cases hi:i < q.occ.length
 ·have hi':((i:Int) < (q.occ.length:Int)) = True:=by simp; omega
  have hi0:(0 ≤ (i:Int)) = True:=by simp
  have hbr:baseR c q i = baseQ c q i:=if_pos ⟨hm,by omega,by omega⟩
  have hb:=hbase i (by unfold In64; omega)
  rw [hbr] at hb
  simp -implicitDefEqProofs only [push_cast,Nat.reduceAdd,Nat.reduceSub,Nat.reduceMul,Nat.reduceLT,Nat.reduceLeDiff,Nat.reduceEqDiff,Nat.reduceBEq,reduceCtorEq,reduceIte,Int.reduceLE,Int.reduceLT,Int.reduceNeg,Int.reduceToNat,hi',hi0,encQ]
  refine callq (Bit_ok s i (by omega)) ?_
  simp -implicitDefEqProofs only [push_cast,Nat.reduceAdd,Nat.reduceSub,Nat.reduceMul,Nat.reduceLT,Nat.reduceLeDiff,Nat.reduceEqDiff,Nat.reduceBEq,reduceCtorEq,reduceIte,Int.reduceLE,Int.reduceLT,Int.reduceNeg,Int.reduceToNat,encQ]
  refine ⟨fun h=>callq hb ?_,fun h=>?_⟩
  ·simp -implicitDefEqProofs only [push_cast,Nat.reduceAdd,Nat.reduceSub,Nat.reduceMul,Nat.reduceLT,Nat.reduceLeDiff,Nat.reduceEqDiff,Nat.reduceBEq,reduceCtorEq,reduceIte,Int.reduceLE,Int.reduceLT,Int.reduceNeg,Int.reduceToNat,encQ]
   rw [wrap64 (n:=(i:Int) + 1) (by omega) (by omega)]
   refine ⟨by omega, ?_⟩
   refine next_at [some 0,some 1,some 4] (i + 1) (by omega) (by omega) rfl ?_ ?_
   ·(try simp -implicitDefEqProofs only [push_cast,Nat.reduceAdd,Nat.reduceSub,Nat.reduceMul,Nat.reduceLT,Nat.reduceLeDiff,Nat.reduceEqDiff,Nat.reduceBEq,reduceCtorEq,reduceIte,Int.reduceLE,Int.reduceLT,Int.reduceNeg,Int.reduceToNat,rowsTo_yes c q s i h,encDs_pure,encEs_pure,encIs_pure,encQ])
   ·(try simp -implicitDefEqProofs only [push_cast,Nat.reduceAdd,Nat.reduceSub,Nat.reduceMul,Nat.reduceLT,Nat.reduceLeDiff,Nat.reduceEqDiff,Nat.reduceBEq,reduceCtorEq,reduceIte,Int.reduceLE,Int.reduceLT,Int.reduceNeg,Int.reduceToNat,rowsTo_yes c q s i h,take_rowI _ _ (Nat.le_refl _),snocI,rowI_pure,rowI_one,encDs_pure,encEs_pure,encIs_pure,encQ])
  ·rw [wrap64 (n:=(i:Int) + 1) (by omega) (by omega)]
   refine next_at [some 0,some 1,some 2] (i + 1) (by omega) (by omega) rfl ?_ ?_
   ·(try simp -implicitDefEqProofs only [push_cast,Nat.reduceAdd,Nat.reduceSub,Nat.reduceMul,Nat.reduceLT,Nat.reduceLeDiff,Nat.reduceEqDiff,Nat.reduceBEq,reduceCtorEq,reduceIte,Int.reduceLE,Int.reduceLT,Int.reduceNeg,Int.reduceToNat,rowsTo_no c q s i h,encDs_pure,encEs_pure,encIs_pure,encQ])
   ·(try simp -implicitDefEqProofs only [push_cast,Nat.reduceAdd,Nat.reduceSub,Nat.reduceMul,Nat.reduceLT,Nat.reduceLeDiff,Nat.reduceEqDiff,Nat.reduceBEq,reduceCtorEq,reduceIte,Int.reduceLE,Int.reduceLT,Int.reduceNeg,Int.reduceToNat,rowsTo_no c q s i h,rowI_pure,rowI_one,encDs_pure,encEs_pure,encIs_pure,encQ])
 ·have hi':((i:Int) < (q.occ.length:Int)) = False:=by simp; omega
  obtain rfl:i = q.occ.length:=by omega
  have hrl:rowsTo c q s q.occ.length = rowsL c q s:=rfl
  simp -implicitDefEqProofs only [push_cast,Nat.reduceAdd,Nat.reduceSub,Nat.reduceMul,Nat.reduceLT,Nat.reduceLeDiff,Nat.reduceEqDiff,Nat.reduceBEq,reduceCtorEq,reduceIte,Int.reduceLE,Int.reduceLT,Int.reduceNeg,Int.reduceToNat,hi',hrl,encQ]
  refine callq hown ?_
  simp -implicitDefEqProofs only [push_cast,Nat.reduceAdd,Nat.reduceSub,Nat.reduceMul,Nat.reduceLT,Nat.reduceLeDiff,Nat.reduceEqDiff,Nat.reduceBEq,reduceCtorEq,reduceIte,Int.reduceLE,Int.reduceLT,Int.reduceNeg,Int.reduceToNat,encQ]
  generalize q.own s = l at hl hmm hfr ⊢
  generalize rowsL c q s = zs at hti htr ⊢
  refine loop_at hs (σ:=Nat) (fun i=>i ≤ l.length) (fun i=>l.length - i)
   (fun i=>[(13, .int i),(12, .sl (l.map encI)),(8, .sl (zs.map encI)),(4, .ptr (H.nxt + 1) 6 0 0),(11, .int (prodI ((l.take i).map fun i=>wE (q.p.getD i.toNat exO))))]) (fun i=>[none,some (.cells 6 [encQ q] 0)]) [some 0,some 1] 0 (by omega) rfl ?_ ?_ ?_
  ·(try simp -implicitDefEqProofs only [push_cast,Nat.reduceAdd,Nat.reduceSub,Nat.reduceMul,Nat.reduceLT,Nat.reduceLeDiff,Nat.reduceEqDiff,Nat.reduceBEq,reduceCtorEq,reduceIte,Int.reduceLE,Int.reduceLT,Int.reduceNeg,Int.reduceToNat,encEs_pure,encIs_pure,encQ,List.take_zero,List.map_nil,prodI,take_rowI _ _ (Nat.le_refl _)])
  ·(try simp -implicitDefEqProofs only [push_cast,Nat.reduceAdd,Nat.reduceSub,Nat.reduceMul,Nat.reduceLT,Nat.reduceLeDiff,Nat.reduceEqDiff,Nat.reduceBEq,reduceCtorEq,reduceIte,Int.reduceLE,Int.reduceLT,Int.reduceNeg,Int.reduceToNat,encDs_pure,encEs_pure,encIs_pure,encQ])
  intro i hi2
  by_cases hi:i < l.length
  ·have hi':((i:Int) < (l.length:Int)) = True:=by simp; omega
   have hi0:(0 ≤ (i:Int)) = True:=by simp
   obtain ⟨h0,h1⟩:=hmm _ (List.getElem_mem hi)
   obtain ⟨k,hk⟩:∃ k:Nat,l[i] = k:=⟨l[i].toNat,by omega⟩
   have hkl:k < q.p.length:=by omega
   have hk0:(0 ≤ (k:Int)) = True:=by simp
   have hk':((k:Int) < (q.p.length:Int)) = True:=by simp; omega
   have hok:=hq.2.1 _ (List.getElem_mem hkl)
   have hge:q.p.getD l[i].toNat exO = q.p[k]:=by
    rw [hk,Int.toNat_natCast,List.getD_eq_getElem?_getD,List.getElem?_eq_getElem hkl]; rfl
   have hsn:=fewerTo_snoc q l i hi
   have hrg:=fewerTo_range q (l.take i)
   have hp:=pow_ten (n:=(l.take i).length) (by rw [List.length_take]; omega)
   rw [hge] at hsn
   generalize prodI ((l.take i).map fun i=>wE (q.p.getD i.toNat exO)) = v at hsn hrg ⊢
   have hv:v ≤ 100000000:=by omega
   simp -implicitDefEqProofs only [push_cast,Nat.reduceAdd,Nat.reduceSub,Nat.reduceMul,Nat.reduceLT,Nat.reduceLeDiff,Nat.reduceEqDiff,Nat.reduceBEq,reduceCtorEq,reduceIte,Int.reduceLE,Int.reduceLT,Int.reduceNeg,Int.reduceToNat,hi',hi0,encQ]
   refine areg_at 15 (by kernel_rfl) (by kernel_rfl) ?_
   simp -implicitDefEqProofs only [push_cast,Nat.reduceAdd,Nat.reduceSub,Nat.reduceMul,Nat.reduceLT,Nat.reduceLeDiff,Nat.reduceEqDiff,Nat.reduceBEq,reduceCtorEq,reduceIte,Int.reduceLE,Int.reduceLT,Int.reduceNeg,Int.reduceToNat,hi',hi0,encIs_get l i hi,encI,hk,hk0,hk',encEs_get q.p k hkl,encQ]
   refine ahdq (PairR_ok _ hok.1) ?_
   simp -implicitDefEqProofs only [push_cast,Nat.reduceAdd,Nat.reduceSub,Nat.reduceMul,Nat.reduceLT,Nat.reduceLeDiff,Nat.reduceEqDiff,Nat.reduceBEq,reduceCtorEq,reduceIte,Int.reduceLE,Int.reduceLT,Int.reduceNeg,Int.reduceToNat,encQ]
   refine ⟨fun h=>?_,fun h=>?_⟩
   ·have hw:(10:Int) = wE q.p[k]:=by rw [wE,if_pos h]
    rw [← hw] at hsn
    rw [wrap64 (n:=(i:Int) + 1) (by omega) (by omega),wrap64 (by omega) (by omega)]
    refine next_at [none,some 1] (i + 1) (by omega) (by omega) rfl ?_ ?_
    ·(try simp -implicitDefEqProofs only [push_cast,Nat.reduceAdd,Nat.reduceSub,Nat.reduceMul,Nat.reduceLT,Nat.reduceLeDiff,Nat.reduceEqDiff,Nat.reduceBEq,reduceCtorEq,reduceIte,Int.reduceLE,Int.reduceLT,Int.reduceNeg,Int.reduceToNat,hsn,encEs_pure,encIs_pure,encQ])
    ·(try simp -implicitDefEqProofs only [push_cast,Nat.reduceAdd,Nat.reduceSub,Nat.reduceMul,Nat.reduceLT,Nat.reduceLeDiff,Nat.reduceEqDiff,Nat.reduceBEq,reduceCtorEq,reduceIte,Int.reduceLE,Int.reduceLT,Int.reduceNeg,Int.reduceToNat,encEs_pure,encIs_pure,encQ])
   ·have hw:(3:Int) = wE q.p[k]:=by rw [wE,if_neg (by simp [h])]
    rw [← hw] at hsn
    rw [wrap64 (n:=(i:Int) + 1) (by omega) (by omega),wrap64 (by omega) (by omega)]
    refine next_at [none,some 1] (i + 1) (by omega) (by omega) rfl ?_ ?_
    ·(try simp -implicitDefEqProofs only [push_cast,Nat.reduceAdd,Nat.reduceSub,Nat.reduceMul,Nat.reduceLT,Nat.reduceLeDiff,Nat.reduceEqDiff,Nat.reduceBEq,reduceCtorEq,reduceIte,Int.reduceLE,Int.reduceLT,Int.reduceNeg,Int.reduceToNat,hsn,encEs_pure,encIs_pure,encQ])
    ·(try simp -implicitDefEqProofs only [push_cast,Nat.reduceAdd,Nat.reduceSub,Nat.reduceMul,Nat.reduceLT,Nat.reduceLeDiff,Nat.reduceEqDiff,Nat.reduceBEq,reduceCtorEq,reduceIte,Int.reduceLE,Int.reduceLT,Int.reduceNeg,Int.reduceToNat,encEs_pure,encIs_pure,encQ])
  ·have hi':((i:Int) < (l.length:Int)) = False:=by simp; omega
   have h5:l.take i = l:=List.take_of_length_le (by omega)
   rw [h5]
   generalize prodI (l.map fun i=>wE (q.p.getD i.toNat exO)) = v at hfr ⊢
   have hcap:capN = 1099511627776:=rfl
   have hdv:0 ≤ times zs / v ∧ times zs / v ≤ times zs:=⟨div_nonneg' htr.1 hfr,div_le_self' htr.1 hfr⟩
   have hq4:IntKind.wrap .i64 (Int.tdiv (times zs) v) = times zs / v:=by rw [Int.tdiv_eq_ediv_of_nonneg htr.1,wrap64 (by omega) (by omega)]
   simp -implicitDefEqProofs only [push_cast,Nat.reduceAdd,Nat.reduceSub,Nat.reduceMul,Nat.reduceLT,Nat.reduceLeDiff,Nat.reduceEqDiff,Nat.reduceBEq,reduceCtorEq,reduceIte,Int.reduceLE,Int.reduceLT,Int.reduceNeg,Int.reduceToNat,hi',encQ]
   refine callq hti ?_
   simp -implicitDefEqProofs only [push_cast,Nat.reduceAdd,Nat.reduceSub,Nat.reduceMul,Nat.reduceLT,Nat.reduceLeDiff,Nat.reduceEqDiff,Nat.reduceBEq,reduceCtorEq,reduceIte,Int.reduceLE,Int.reduceLT,Int.reduceNeg,Int.reduceToNat,encQ,hq4]
   refine ⟨by omega,fun h=>?_,fun h=>?_⟩
   ·omega
   ·omega
end
end Go.Sim.Tryz
