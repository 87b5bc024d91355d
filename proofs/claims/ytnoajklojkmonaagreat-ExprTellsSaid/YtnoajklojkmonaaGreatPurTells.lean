/- The law ExprTells, for whatever comes in. Conditions: none. -/
import Derived.Test.YtnoajklojkmonaaGreatSimTellsB
set_option linter.unusedSimpArgs false
set_option linter.unusedVariables false
set_option maxRecDepth 100000
namespace Go.Sim.Tryz
open Go Go.Sim

theorem shp_V2 {n : Nat} {vs : List AV} (h : Shp Go.Proofs.Tryz.prog n 23 vs) : ∃ v : Vl, vs = encV v ∧ In64 v.n := by
  obtain ⟨m, parts, _, rfl, hl, hp⟩ := shp_struct Go.Proofs.Tryz.underlying23 h
  match parts, hl with
  | [p0, p1], _ =>
    obtain ⟨k, rfl, _⟩ := shp_int Go.Proofs.Tryz.underlying3 (hp 0 _ p0 rfl rfl).2
    obtain ⟨n, rfl, hn⟩ := shp_int Go.Proofs.Tryz.underlying3 (hp 1 _ p1 rfl rfl).2
    exact ⟨⟨k, n⟩, rfl, wf64 hn⟩
theorem shp_Vs2 {n : Nat} {vs : List AV} (h : Shp Go.Proofs.Tryz.prog n 28 vs) : ∃ l : List Vl, vs = [.sl (l.map encV)] ∧ l.length ≤ 140737488355328 ∧ ∀ v ∈ l, In64 v.n := by
  obtain ⟨m, es, _, rfl, hl, hp⟩ := shp_slice Go.Proofs.Tryz.underlying28 h
  rw [bytesV] at hl
  obtain ⟨l, rfl, hq⟩ := map_of (f := encV) (q := fun v => In64 v.n) fun x hx => shp_V2 (hp x hx).2
  exact ⟨l, rfl, by simp [reachBytes] at hl; omega, hq⟩
theorem shp_E2 : ∀ (n : Nat) {vs : List AV}, Shp Go.Proofs.Tryz.prog n 26 vs → ∃ e : Ex, vs = encE e ∧ (e.Ok ∧ e.In) := by
  intro n
  induction n using Nat.strongRecOn with
  | ind n ih =>
  intro vs h
  obtain ⟨m, parts, hn, rfl, hl, hp⟩ := shp_struct Go.Proofs.Tryz.underlying26 h
  match parts, hl with
  | [p0, p1, p2, p3], _ =>
    obtain ⟨op, rfl, _⟩ := shp_int Go.Proofs.Tryz.underlying3 (hp 0 _ p0 rfl rfl).2
    obtain ⟨col, rfl, _⟩ := shp_int Go.Proofs.Tryz.underlying3 (hp 1 _ p1 rfl rfl).2
    obtain ⟨⟨k, n'⟩, rfl, hv⟩ := shp_V2 (hp 2 _ p2 rfl rfl).2
    obtain ⟨m', es, hm, rfl, hle, hpe⟩ := shp_slice Go.Proofs.Tryz.underlying24 (hp 3 _ p3 rfl rfl).2
    rw [bytesE] at hle
    obtain ⟨l, rfl, hq⟩ := map_of (f := encE) (q := fun e => e.Ok ∧ e.In) fun x hx => ih m' (by omega) (hpe x hx).2
    refine ⟨.mk op col k n' l, by rw [encE_mk]; rfl, .mk ?_ fun x hx => (hq x hx).1, .mk hv fun x hx => (hq x hx).2⟩
    simp [reachBytes] at hle
    omega
theorem exprTells_law (us : List AV) (h : ToldAll Go.Proofs.Tryz.prog Go.Proofs.Tryz.f3.params.toList us) : Quiet Go.Proofs.Tryz.prog 3 us (.bool true) := by
  have e1 : Go.Proofs.Tryz.f3.params.toList = [26, 26, 27, 28] := by kernel_rfl
  rw [e1] at h
  simp only [ToldAll] at h
  obtain ⟨n, vs, us1, rfl, h1, n2, vs2, us2, rfl, h2, n3, vs3, us3, rfl, h3, n4, vs4, us4, rfl, h4, rfl⟩ := h
  obtain ⟨e, rfl, he, hei⟩ := shp_E2 n h1
  obtain ⟨f, rfl, hf⟩ := shp_E n2 h2
  obtain ⟨cols, rfl, hc⟩ := shp_Is h3
  obtain ⟨row, rfl, hr, hri⟩ := shp_Vs2 h4
  rw [asV_E, asV_E, asV_Is, asV_Vs]
  exact exprTells_ok e f he hf hei cols hc row hr hri
end Go.Sim.Tryz
