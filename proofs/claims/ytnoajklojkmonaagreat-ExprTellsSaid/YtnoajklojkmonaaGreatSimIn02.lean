/- What comes in, as expressions and values. Conditions: none. -/
import Derived.Test.YtnoajklojkmonaaGreatSimR
import Derived.Test.YtnoajklojkmonaaGreatSimCols
set_option linter.unusedSimpArgs false
set_option linter.unusedVariables false
set_option maxRecDepth 100000
namespace Go.Sim.Tryz
open Go Go.Sim

theorem shp_V {n : Nat} {vs : List AV} (h : Shp Go.Proofs.Tryz.prog n 23 vs) : ∃ v : Vl, vs = encV v := by
  obtain ⟨m, parts, _, rfl, hl, hp⟩ := shp_struct Go.Proofs.Tryz.underlying23 h
  match parts, hl with
  | [p0, p1], _ =>
    obtain ⟨k, rfl, _⟩ := shp_int Go.Proofs.Tryz.underlying3 (hp 0 _ p0 rfl rfl).2
    obtain ⟨n, rfl, _⟩ := shp_int Go.Proofs.Tryz.underlying3 (hp 1 _ p1 rfl rfl).2
    exact ⟨⟨k, n⟩, rfl⟩
theorem bytesV : Program.bytesOf Go.Proofs.Tryz.prog 23 = 16 := by kernel_rfl
theorem bytesE : Program.bytesOf Go.Proofs.Tryz.prog 26 = 56 := by kernel_rfl
theorem bytesI : Program.bytesOf Go.Proofs.Tryz.prog 3 = 8 := by kernel_rfl
theorem shp_Vs {n : Nat} {vs : List AV} (h : Shp Go.Proofs.Tryz.prog n 28 vs) : ∃ l : List Vl, vs = [.sl (l.map encV)] ∧ l.length ≤ 140737488355328 := by
  obtain ⟨m, es, _, rfl, hl, hp⟩ := shp_slice Go.Proofs.Tryz.underlying28 h
  rw [bytesV] at hl
  obtain ⟨l, rfl, _⟩ := map_of (f := encV) (q := fun _ => True) fun x hx => let ⟨v, hv⟩ := shp_V (hp x hx).2; ⟨v, hv, trivial⟩
  exact ⟨l, rfl, by simp [reachBytes] at hl; omega⟩
theorem shp_Is {n : Nat} {vs : List AV} (h : Shp Go.Proofs.Tryz.prog n 27 vs) : ∃ l : List Int, vs = [.sl (l.map encI)] ∧ l.length ≤ 140737488355328 := by
  obtain ⟨m, es, _, rfl, hl, hp⟩ := shp_slice Go.Proofs.Tryz.underlying27 h
  rw [bytesI] at hl
  obtain ⟨l, rfl, _⟩ := map_of (f := encI) (q := fun _ => True) fun x hx => let ⟨v, hv, _⟩ := shp_int Go.Proofs.Tryz.underlying3 (hp x hx).2; ⟨v, hv, trivial⟩
  exact ⟨l, rfl, by simp [reachBytes] at hl; omega⟩
/-- Each number of it is one of 64 bits. -/
inductive Ex.Wf : Ex → Prop
  | mk {op col k n : Int} {l : List Ex} (h1 : (-9223372036854775808 ≤ op ∧ op ≤ 9223372036854775807) ∧ (-9223372036854775808 ≤ col ∧ col ≤ 9223372036854775807) ∧ (-9223372036854775808 ≤ k ∧ k ≤ 9223372036854775807) ∧ (-9223372036854775808 ≤ n ∧ n ≤ 9223372036854775807)) (h2 : ∀ x ∈ l, x.Wf) : Ex.Wf (.mk op col k n l)
theorem shp_E : ∀ (n : Nat) {vs : List AV}, Shp Go.Proofs.Tryz.prog n 26 vs → ∃ e : Ex, vs = encE e ∧ e.Ok := by
  intro n
  induction n using Nat.strongRecOn with
  | ind n ih =>
  intro vs h
  obtain ⟨m, parts, hn, rfl, hl, hp⟩ := shp_struct Go.Proofs.Tryz.underlying26 h
  match parts, hl with
  | [p0, p1, p2, p3], _ =>
    obtain ⟨op, rfl, _⟩ := shp_int Go.Proofs.Tryz.underlying3 (hp 0 _ p0 rfl rfl).2
    obtain ⟨col, rfl, _⟩ := shp_int Go.Proofs.Tryz.underlying3 (hp 1 _ p1 rfl rfl).2
    obtain ⟨⟨k, n'⟩, rfl⟩ := shp_V (hp 2 _ p2 rfl rfl).2
    obtain ⟨m', es, hm, rfl, hle, hpe⟩ := shp_slice Go.Proofs.Tryz.underlying24 (hp 3 _ p3 rfl rfl).2
    rw [bytesE] at hle
    obtain ⟨l, rfl, hq⟩ := map_of (f := encE) (q := Ex.Ok) fun x hx => ih m' (by omega) (hpe x hx).2
    refine ⟨.mk op col k n' l, by rw [encE_mk]; rfl, .mk ?_ hq⟩
    simp [reachBytes] at hle
    omega
theorem asV_V (vs : List AV) : asV Go.Proofs.Tryz.prog 23 vs = .agg vs := by simp only [asV, Go.Proofs.Tryz.underlying23]
theorem asV_E (vs : List AV) : asV Go.Proofs.Tryz.prog 26 vs = .agg vs := by simp only [asV, Go.Proofs.Tryz.underlying26]
theorem asV_Vs (vs : List AV) : asV Go.Proofs.Tryz.prog 28 vs = vs.headD .any := by simp only [asV, Go.Proofs.Tryz.underlying28]
theorem asV_Is (vs : List AV) : asV Go.Proofs.Tryz.prog 27 vs = vs.headD .any := by simp only [asV, Go.Proofs.Tryz.underlying27]
theorem asV_I (vs : List AV) : asV Go.Proofs.Tryz.prog 3 vs = vs.headD .any := by simp only [asV, Go.Proofs.Tryz.underlying3]

/-- An expression, and a row of values. -/
theorem told_EV {us : List AV} (h : ToldAll Go.Proofs.Tryz.prog [26, 28] us) : ∃ (e : Ex) (row : List Vl), e.Ok ∧ row.length ≤ 140737488355328 ∧ us = [.agg (encE e), .sl (row.map encV)] := by
  simp only [ToldAll] at h
  obtain ⟨n, vs, us1, rfl, h1, n2, vs2, us2, rfl, h2, rfl⟩ := h
  obtain ⟨e, rfl, he⟩ := shp_E n h1
  obtain ⟨row, rfl, hr⟩ := shp_Vs h2
  exact ⟨e, row, he, hr, by rw [asV_E, asV_Vs]; rfl⟩
theorem told_EEV {us : List AV} (h : ToldAll Go.Proofs.Tryz.prog [26, 26, 28] us) : ∃ (e f : Ex) (row : List Vl), e.Ok ∧ f.Ok ∧ row.length ≤ 140737488355328 ∧ us = [.agg (encE e), .agg (encE f), .sl (row.map encV)] := by
  simp only [ToldAll] at h
  obtain ⟨n, vs, us1, rfl, h1, n2, vs2, us2, rfl, h2, n3, vs3, us3, rfl, h3, rfl⟩ := h
  obtain ⟨e, rfl, he⟩ := shp_E n h1
  obtain ⟨f, rfl, hf⟩ := shp_E n2 h2
  obtain ⟨row, rfl, hr⟩ := shp_Vs h3
  exact ⟨e, f, row, he, hf, hr, by rw [asV_E, asV_E, asV_Vs]; rfl⟩
theorem told_EVV {us : List AV} (h : ToldAll Go.Proofs.Tryz.prog [26, 28, 28] us) : ∃ (e : Ex) (row other : List Vl), e.Ok ∧ row.length ≤ 140737488355328 ∧ other.length ≤ 140737488355328 ∧ us = [.agg (encE e), .sl (row.map encV), .sl (other.map encV)] := by
  simp only [ToldAll] at h
  obtain ⟨n, vs, us1, rfl, h1, n2, vs2, us2, rfl, h2, n3, vs3, us3, rfl, h3, rfl⟩ := h
  obtain ⟨e, rfl, he⟩ := shp_E n h1
  obtain ⟨row, rfl, hr⟩ := shp_Vs h2
  obtain ⟨other, rfl, ho⟩ := shp_Vs h3
  exact ⟨e, row, other, he, hr, ho, by rw [asV_E, asV_Vs, asV_Vs]; rfl⟩
end Go.Sim.Tryz
