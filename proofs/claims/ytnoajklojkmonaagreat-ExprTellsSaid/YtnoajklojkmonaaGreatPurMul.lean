/- Sums, differences, products and quotients of numbers of 64 bits, told in two ways. Conditions: none. -/
import Derived.Test.YtnoajklojkmonaaGreatSimRef1
import Derived.Laws.Bits64
set_option linter.unusedSimpArgs false
set_option linter.unusedVariables false
namespace Go.Sim.Tryz
open Go Go.Sim

theorem band_mask (x : Int) (h0 : 0 ≤ x) (h1 : x < 18446744073709551616) : band .u64 x 4294967295 = x % 4294967296 := by
  obtain ⟨n, rfl⟩ : ∃ n : Nat, x = n := ⟨x.toNat, by omega⟩
  have hn : n < 2 ^ 64 := by omega
  show IntKind.wrap .u64 ((BitVec.ofInt 64 (n : Int) &&& BitVec.ofInt 64 4294967295 : BitVec 64).toNat : Int) = _
  have e1 : (BitVec.ofInt 64 (n : Int)) = BitVec.ofNat 64 n := by
    apply BitVec.eq_of_toNat_eq
    simp
  have e2 : (BitVec.ofInt 64 4294967295) = BitVec.ofNat 64 4294967295 := by decide
  rw [e1, e2, BitVec.toNat_and, BitVec.toNat_ofNat, BitVec.toNat_ofNat, Nat.mod_eq_of_lt hn]
  have e3 : n &&& (4294967295 % 2 ^ 64) = n % 4294967296 := by
    have := Nat.and_two_pow_sub_one_eq_mod n 32
    simpa using this
  rw [e3, IntKind.wrap_u64]
  omega
theorem bshr_32 (x : Int) (h0 : 0 ≤ x) : bshr .u64 x 32 = x / 4294967296 := by
  unfold bshr
  have e : (2 : Int) ^ (min (32 : Int).toNat IntKind.u64.bits) = 4294967296 := by decide
  rw [e, Int.fdiv_eq_ediv_of_nonneg _ (by omega)]

theorem mulHi_eq (x y : Int) (hx0 : 0 ≤ x) (hx1 : x < 18446744073709551616) (hy0 : 0 ≤ y) (hy1 : y < 18446744073709551616) : mulHi x y = x * y / 18446744073709551616 := by
  have dx : 0 ≤ x / 4294967296 ∧ x / 4294967296 ≤ 4294967295 ∧ 0 ≤ x % 4294967296 ∧ x % 4294967296 ≤ 4294967295 ∧ x = 4294967296 * (x / 4294967296) + x % 4294967296 := by omega
  have dy : 0 ≤ y / 4294967296 ∧ y / 4294967296 ≤ 4294967295 ∧ 0 ≤ y % 4294967296 ∧ y % 4294967296 ≤ 4294967295 ∧ y = 4294967296 * (y / 4294967296) + y % 4294967296 := by omega
  unfold mulHi mulW
  rw [bshr_32 x hx0, bshr_32 y hy0, band_mask x hx0 hx1, band_mask y hy0 hy1]
  generalize x / 4294967296 = x1 at dx ⊢
  generalize x % 4294967296 = x0 at dx ⊢
  generalize y / 4294967296 = y1 at dy ⊢
  generalize y % 4294967296 = y0 at dy ⊢
  obtain ⟨a1, a2, a3, a4, rfl⟩ := dx
  obtain ⟨b1, b2, b3, b4, rfl⟩ := dy
  have prod : ∀ u v : Int, 0 ≤ u → u ≤ 4294967295 → 0 ≤ v → v ≤ 4294967295 → 0 ≤ u * v ∧ u * v ≤ 18446744065119617025 := fun u v h1 h2 h3 h4 => by
    refine ⟨Int.mul_nonneg h1 h3, ?_⟩
    have := Int.mul_le_mul h2 h4 h3 (by omega : (0 : Int) ≤ 4294967295)
    omega
  have p11 := prod x1 y1 a1 a2 b1 b2
  have p10 := prod x1 y0 a1 a2 b3 b4
  have p01 := prod x0 y1 a3 a4 b1 b2
  have p00 := prod x0 y0 a3 a4 b3 b4
  have expand : (4294967296 * x1 + x0) * (4294967296 * y1 + y0) = 18446744073709551616 * (x1 * y1) + 4294967296 * (x1 * y0 + x0 * y1) + x0 * y0 := by
    rw [Int.add_mul, Int.mul_add, Int.mul_add]
    have e1 : 4294967296 * x1 * (4294967296 * y1) = 18446744073709551616 * (x1 * y1) := by
      rw [Int.mul_assoc, Int.mul_left_comm x1, ← Int.mul_assoc]; rfl
    have e2 : 4294967296 * x1 * y0 = 4294967296 * (x1 * y0) := Int.mul_assoc _ _ _
    have e3 : x0 * (4294967296 * y1) = 4294967296 * (x0 * y1) := Int.mul_left_comm _ _ _
    rw [e1, e2, e3]
    omega
  rw [expand]
  generalize x1 * y1 = q11 at p11 ⊢
  generalize x1 * y0 = q10 at p10 ⊢
  generalize x0 * y1 = q01 at p01 ⊢
  generalize x0 * y0 = q00 at p00 ⊢
  simp only [IntKind.wrap_u64]
  have e00 : q00 % 18446744073709551616 = q00 := by omega
  have e10 : q10 % 18446744073709551616 = q10 := by omega
  have e01 : q01 % 18446744073709551616 = q01 := by omega
  have e11 : q11 % 18446744073709551616 = q11 := by omega
  rw [e00, e10, e01, e11, bshr_32 q00 p00.1]
  have eW : (q10 + q00 / 4294967296) % 18446744073709551616 = q10 + q00 / 4294967296 := by omega
  rw [eW, bshr_32 _ (by omega), band_mask _ (by omega) (by omega)]
  generalize hw : q10 + q00 / 4294967296 = W
  have eW2 : (W % 4294967296 + q01) % 18446744073709551616 = W % 4294967296 + q01 := by omega
  rw [eW2, bshr_32 _ (by omega)]
  omega

theorem wrap_in {n : Int} (h0 : -9223372036854775808 ≤ n) (h1 : n ≤ 9223372036854775807) : IntKind.wrap .i64 n = n := wrap64 h0 h1
def In64 (n : Int) : Prop := -9223372036854775808 ≤ n ∧ n ≤ 9223372036854775807
theorem wrap_is (n : Int) : In64 (IntKind.wrap .i64 n) := by rw [IntKind.wrap_i64]; unfold In64; omega

theorem add_eq (x y : Int) (hx : In64 x) (hy : In64 y) : (addR x y).2 = (addF x y).2 ∧ ((addF x y).2 = true → (addR x y).1 = (addF x y).1) := by
  unfold In64 at hx hy
  unfold addR addF
  simp only [IntKind.wrap_i64]
  split
  · rename_i h
    simp only [Bool.or_eq_true, Bool.and_eq_true, decide_eq_true_eq] at h
    refine ⟨?_, fun h2 => ?_⟩
    · symm
      rw [beq_eq_false_iff_ne, ne_eq, decide_eq_decide]
      omega
    · rw [beq_iff_eq, decide_eq_decide] at h2
      omega
  · rename_i h
    simp only [Bool.or_eq_true, Bool.and_eq_true, decide_eq_true_eq, not_or, not_and] at h
    refine ⟨?_, fun _ => rfl⟩
    symm
    rw [beq_iff_eq, decide_eq_decide]
    omega
theorem sub_eq (x y : Int) (hx : In64 x) (hy : In64 y) : (subR x y).2 = (subF x y).2 ∧ ((subF x y).2 = true → (subR x y).1 = (subF x y).1) := by
  unfold In64 at hx hy
  unfold subR subF
  simp only [IntKind.wrap_i64]
  split
  · rename_i h
    simp only [Bool.or_eq_true, Bool.and_eq_true, decide_eq_true_eq] at h
    refine ⟨?_, fun h2 => ?_⟩
    · symm
      rw [beq_eq_false_iff_ne, ne_eq, decide_eq_decide]
      omega
    · rw [beq_iff_eq, decide_eq_decide] at h2
      omega
  · rename_i h
    simp only [Bool.or_eq_true, Bool.and_eq_true, decide_eq_true_eq, not_or, not_and] at h
    refine ⟨?_, fun _ => rfl⟩
    symm
    rw [beq_iff_eq, decide_eq_decide]
    omega
theorem div_eq (x y : Int) : divR x y = divF x y := by
  unfold divR divF
  by_cases h : y = 0 ∨ (x = -9223372036854775808 ∧ y = -1)
  · rw [if_pos h, if_pos]
    simp only [Bool.or_eq_true, Bool.and_eq_true, decide_eq_true_eq]
    omega
  · rw [if_neg h, if_neg]
    simp only [Bool.or_eq_true, Bool.and_eq_true, decide_eq_true_eq]
    omega

theorem sizeF_abs (x : Int) (hx : In64 x) : sizeF x = if x < 0 then -x else x := by
  unfold In64 at hx
  unfold sizeF
  simp only [IntKind.wrap_u64]
  split <;> omega
theorem mul_abs (x y : Int) : (if x < 0 then -x else x) * (if y < 0 then -y else y) = if x * y < 0 then -(x * y) else x * y := by
  by_cases hx : x < 0 <;> by_cases hy : y < 0 <;> simp only [hx, hy, if_true, if_false]
  · have : 0 ≤ x * y := Int.mul_nonneg_of_nonpos_of_nonpos (by omega) (by omega)
    rw [if_neg (by omega), Int.neg_mul_neg]
  · have : x * y ≤ 0 := Int.mul_nonpos_of_nonpos_of_nonneg (by omega) (by omega)
    rw [Int.neg_mul]
    split <;> omega
  · have : x * y ≤ 0 := Int.mul_nonpos_of_nonneg_of_nonpos (by omega) (by omega)
    rw [Int.mul_neg]
    split <;> omega
  · have : 0 ≤ x * y := Int.mul_nonneg (by omega) (by omega)
    rw [if_neg (by omega)]
theorem mulF_flag (x y : Int) (hx : In64 x) (hy : In64 y) : (mulF x y).2 = true ↔ In64 (x * y) := by
  have sx : 0 ≤ sizeF x ∧ sizeF x ≤ 9223372036854775808 := by rw [sizeF_abs x hx]; unfold In64 at hx; split <;> omega
  have sy : 0 ≤ sizeF y ∧ sizeF y ≤ 9223372036854775808 := by rw [sizeF_abs y hy]; unfold In64 at hy; split <;> omega
  have habs : sizeF x * sizeF y = if x * y < 0 then -(x * y) else x * y := by rw [sizeF_abs x hx, sizeF_abs y hy, mul_abs]
  have hnn : 0 ≤ sizeF x * sizeF y := Int.mul_nonneg sx.1 sy.1
  unfold mulF
  simp only []
  rw [mulHi_eq _ _ sx.1 (by omega) sy.1 (by omega), Bool.and_eq_true, decide_eq_true_eq, decide_eq_true_eq]
  simp only [IntKind.wrap_u64]
  have hsign : (decide (x < 0) == decide (y < 0)) = true → 0 ≤ x * y := by
    rw [beq_iff_eq, decide_eq_decide]
    intro h
    by_cases h1 : x < 0
    · exact Int.mul_nonneg_of_nonpos_of_nonpos (by omega) (by have := h.1 h1; omega)
    · exact Int.mul_nonneg (by omega) (by have := mt h.2 h1; omega)
  have hsign2 : ¬ (decide (x < 0) == decide (y < 0)) = true → x * y ≤ 0 := by
    rw [beq_iff_eq, decide_eq_decide]
    intro h
    by_cases h1 : x < 0
    · exact Int.mul_nonpos_of_nonpos_of_nonneg (by omega) (by
        by_cases h2 : y < 0
        · exact absurd ⟨fun _ => h2, fun _ => h1⟩ h
        · omega)
    · by_cases h2 : y < 0
      · exact Int.mul_nonpos_of_nonneg_of_nonpos (by omega) (by omega)
      · exact absurd ⟨fun h3 => absurd h3 h1, fun h3 => absurd h3 h2⟩ h
  generalize x * y = p at habs hsign hsign2 ⊢
  generalize sizeF x * sizeF y = q at habs hnn ⊢
  unfold In64
  by_cases hs : (decide (x < 0) == decide (y < 0)) = true
  · rw [if_pos hs]
    have := hsign hs
    rw [if_neg (by omega)] at habs
    constructor
    · intro h; omega
    · intro h; omega
  · rw [if_neg hs]
    have := hsign2 hs
    constructor
    · rintro ⟨h1, h2⟩
      split at habs <;> omega
    · intro h
      split at habs <;> omega
theorem mul_eq (x y : Int) (hx : In64 x) (hy : In64 y) : (mulR x y).2 = (mulF x y).2 ∧ ((mulF x y).2 = true → (mulR x y).1 = (mulF x y).1) := by
  have hF := mulF_flag x y hx hy
  have hv : (mulF x y).1 = IntKind.wrap .i64 (x * y) := rfl
  rw [hv]
  unfold mulR
  split
  · rename_i h
    simp only [Bool.or_eq_true, decide_eq_true_eq] at h
    have hz : x * y = 0 := by rcases h with rfl | rfl <;> simp
    rw [hz] at hF ⊢
    refine ⟨(hF.2 (by unfold In64; omega)).symm, fun _ => ?_⟩
    rw [wrap_in (by omega) (by omega)]
  rename_i h0
  simp only [Bool.or_eq_true, decide_eq_true_eq, not_or] at h0
  split
  · rename_i h
    simp only [Bool.or_eq_true, Bool.and_eq_true, decide_eq_true_eq] at h
    have hz : x * y = 9223372036854775808 := by rcases h with ⟨rfl, rfl⟩ | ⟨rfl, rfl⟩ <;> decide
    have hno : ¬ (mulF x y).2 = true := fun h => by
      have := hF.1 h
      rw [hz] at this
      unfold In64 at this
      omega
    exact ⟨(Bool.eq_false_iff.2 hno).symm, fun h => absurd h hno⟩
  rename_i h1
  simp only [Bool.or_eq_true, Bool.and_eq_true, decide_eq_true_eq, not_or, not_and] at h1
  have hw := wrap_is (x * y)
  by_cases hin : In64 (x * y)
  · have hwe : IntKind.wrap .i64 (x * y) = x * y := wrap_in hin.1 hin.2
    have hd : (x * y).tdiv y = x := Int.mul_tdiv_cancel x h0.2
    have hm : (x * y).tmod y = 0 := Int.mul_tmod_left x y
    rw [hwe, hd, hm, wrap_in hx.1 hx.2, if_neg (by simp)]
    exact ⟨(hF.2 hin).symm, fun _ => rfl⟩
  · have hno : ¬ (mulF x y).2 = true := fun h => hin (hF.1 h)
    rw [if_pos]
    · exact ⟨(Bool.eq_false_iff.2 hno).symm, fun h => absurd h hno⟩
    · rw [Bool.or_eq_true, Bool.not_eq_true', Bool.not_eq_true', decide_eq_false_iff_not, decide_eq_false_iff_not]
      by_cases hm : (IntKind.wrap .i64 (x * y)).tmod y = 0
      · left
        intro hd
        generalize IntKind.wrap .i64 (x * y) = n at hw hm hd
        have hn : n = y * n.tdiv y := by
          have := Int.mul_tdiv_add_tmod n y
          omega
        by_cases hsp : y = -1 ∧ n = -9223372036854775808
        · obtain ⟨rfl, rfl⟩ := hsp
          have e : (-9223372036854775808 : Int).tdiv (-1) = 9223372036854775808 := by decide
          rw [e] at hd
          have e2 : IntKind.wrap .i64 9223372036854775808 = -9223372036854775808 := by decide
          rw [e2] at hd
          exact h1.2 rfl hd.symm
        · have hq : In64 (n.tdiv y) := by
            have h2 := Int.natAbs_tdiv n y
            have h3 : (n.tdiv y).natAbs ≤ n.natAbs := by rw [h2]; exact Nat.div_le_self n.natAbs y.natAbs
            clear h2
            have h4 : n.tdiv y ≠ 9223372036854775808 := fun e => by
              rw [e] at hn
              unfold In64 at hw
              omega
            unfold In64 at hw ⊢
            omega
          rw [wrap_in hq.1 hq.2] at hd
          rw [hd] at hn
          apply hin
          rw [Int.mul_comm, ← hn]
          exact hw
      · exact .inr hm
end Go.Sim.Tryz
