/-
  Proves that the law ThermalDomainsKeepLimit returns true for every input and leaves its arguments as they were. No conditions.
-/
import Derived.Test.YtiikkapdchodkaaRows
import Derived.WalkKit
import Derived.ProofKit
import Derived.OpenShut
import Derived.ShutString
import Derived.ChangeOld
import Derived.Below
import Derived.Test.YtiikkapdchodkaaL8
import Derived.Test.YtiikkapdchodkaaO
namespace Go.Proofs.Ytiikkapdchodkaa.thermalDomainsKeepLimit
open Go.ChangeShapes Go.WideShapes Go.ChangeAt Go.RowKit
open Go.ChangeMaps (open_string shut_string)
set_option linter.unusedVariables false

theorem own : ownKnob Try.prog.godebug = none := by kernel_rfl
theorem laidOut : laidOutB Try.prog = true := by kernel_rfl

set_option maxRecDepth 100000 in
theorem lifted (os : Os) (started : os.Started) (H : Type) (enc : TypeId × Value → H) :
    ReturnsInHanded {} Try.checked os 14 .any (Rows.thermalDomainsKeepLimitSpec.pre6 enc Try.prog Try.f14 Rows.thermalDomainsKeepLimitRow.domain false) (Rows.thermalDomainsKeepLimitSpec.post enc Try.prog Try.f14 false true false false) := by
  refine returnsInHanded_of_change (C := Try.checked) own started (by kernel_rfl) Try.func14
    (ChangeSpec.witness6 (enc := enc) (C := Try.checked) false ⟨#[], #[.slice none 0 0, .slice none 0 0, .int .i64 0, .int .i64 0, .slice none 0 0, .slice none 0 0], []⟩ 8 (by kernel_rfl) (by kernel_rfl) (by kernel_rfl) (by kernel_rfl)) ?_
  intro W base args ds gs before hval0 hW hcnd _
  have hval : ∀ (j : Nat) t v, Try.f14.params[j]? = some t → args[j]? = some v → Value.okWide Try.prog W .any base t v := hval0
  have hW' := hW
  obtain ⟨p, q, hA0, hV, rfl, hfz, hnd⟩ := hW
  have hA : DataW.TrodAll enc Try.prog W 0 (fun _ => true) true Try.f14.params.toList args.toList ds p := hA0
  rw [Try.params14] at hA hval
  obtain ⟨v0, vs0, d0, ds0, p0, q0, hargs, rfl, rfl, h0, t0⟩ := trodAll_cons hA
  obtain ⟨v1, vs1, d1, ds1, p1, q1, rfl, rfl, rfl, h1, t1⟩ := trodAll_cons t0
  obtain ⟨v2, vs2, d2, ds2, p2, q2, rfl, rfl, rfl, h2, t2⟩ := trodAll_cons t1
  obtain ⟨v3, vs3, d3, ds3, p3, q3, rfl, rfl, rfl, h3, t3⟩ := trodAll_cons t2
  obtain ⟨v4, vs4, d4, ds4, p4, q4, rfl, rfl, rfl, h4, t4⟩ := trodAll_cons t3
  obtain ⟨v5, vs5, d5, ds5, p5, q5, rfl, rfl, rfl, h5, t5⟩ := trodAll_cons t4
  obtain ⟨rfl, rfl, rfl⟩ := trodAll_nil t5
  obtain rfl : args = #[v0, v1, v2, v3, v4, v5] := by cases args; simp_all
  obtain ⟨rfl, rfl⟩ := trodVars_none hV
  obtain ⟨b0, len0, cap0, rfl⟩ := okWide_slice Try.underlying69 (hval 0 69 v0 rfl rfl)
  have k0 := h0
  have lt0 : ∀ x ∈ p0, x.block < W.heap.size := by obtain ⟨m, hm⟩ := k0; exact DataW.trod_lt m _ _ _ hm
  obtain ⟨l0, s0, hs0, r0⟩ := Go.Eng.Opens.trod (Go.Eng.opens_slice (sz := 2) Try.underlying69 (by kernel_rfl) opens_api_HeatDomain) h0
  simp [Value.cells] at hs0
  obtain ⟨rfl, rfl, rfl⟩ := hs0
  obtain ⟨b1, len1, cap1, rfl⟩ := okWide_slice Try.underlying70 (hval 1 70 v1 rfl rfl)
  have k1 := h1
  have lt1 : ∀ x ∈ p1, x.block < W.heap.size := by obtain ⟨m, hm⟩ := k1; exact DataW.trod_lt m _ _ _ hm
  obtain ⟨l1, s1, hs1, r1⟩ := Go.Eng.Opens.trod (Go.Eng.opens_slice (sz := 3) Try.underlying70 (by kernel_rfl) opens_api_HeatLink) h1
  simp [Value.cells] at hs1
  obtain ⟨rfl, rfl, rfl⟩ := hs1
  obtain ⟨a2, rfl, rfl, rfl, w2⟩ := open_int Try.underlying2 (hval 2 2 v2 rfl rfl) h2
  obtain ⟨a3, rfl, rfl, rfl, w3⟩ := open_int Try.underlying2 (hval 3 2 v3 rfl rfl) h3
  obtain ⟨b4, len4, cap4, rfl⟩ := okWide_slice Try.underlying40 (hval 4 40 v4 rfl rfl)
  have k4 := h4
  have lt4 : ∀ x ∈ p4, x.block < W.heap.size := by obtain ⟨m, hm⟩ := k4; exact DataW.trod_lt m _ _ _ hm
  obtain ⟨l4, s4, hs4, r4⟩ := Go.Eng.Opens.trod (Go.Eng.opens_slice (sz := 1) Try.underlying40 (by kernel_rfl) (Go.Eng.opens_int Try.underlying37)) h4
  simp [Value.cells] at hs4
  obtain ⟨rfl, rfl, rfl⟩ := hs4
  obtain ⟨b5, len5, cap5, rfl⟩ := okWide_slice Try.underlying87 (hval 5 87 v5 rfl rfl)
  have k5 := h5
  have lt5 : ∀ x ∈ p5, x.block < W.heap.size := by obtain ⟨m, hm⟩ := k5; exact DataW.trod_lt m _ _ _ hm
  obtain ⟨l5, s5, hs5, r5⟩ := Go.Eng.Opens.trod (Go.Eng.opens_slice (sz := 1) Try.underlying87 (by kernel_rfl) (Go.Eng.opens_slice (sz := 1) Try.underlying40 (by kernel_rfl) (Go.Eng.opens_int Try.underlying37))) h5
  simp [Value.cells] at hs5
  obtain ⟨rfl, rfl, rfl⟩ := hs5
  refine (Go.Eng.calls_true (law_domainsKeepLimit W.heap s0 s1 s4 s5 l0 l1 a2 a3 l4 l5 (doms_of r0) (lnks_of r1) (r4.isS (fun _ _ hc => hc.1)) (u64s_of r4) (Go.Eng.rows_of r5) (u64ss_of r5))).mono fun e W' ⟨he, bel⟩ => ?_
  subst he
  exact ⟨_, rfl, _, _, _, [], _, [], hW', trodAll_mk1 (shut_bool Try.underlying4 _), (trodAll_cons_mk (Below.trod laidOut (by kernel_rfl) (of_decide_eq_true (by kernel_rfl)) k0 bel lt0) (trodAll_cons_mk (Below.trod laidOut (by kernel_rfl) (of_decide_eq_true (by kernel_rfl)) k1 bel lt1) (trodAll_cons_mk (shut_int Try.underlying2 w2) (trodAll_cons_mk (shut_int Try.underlying2 w3) (trodAll_cons_mk (Below.trod laidOut (by kernel_rfl) (of_decide_eq_true (by kernel_rfl)) k4 bel lt4) (trodAll_cons_mk (Below.trod laidOut (by kernel_rfl) (of_decide_eq_true (by kernel_rfl)) k5 bel lt5) trodAll_mk0)))))), rfl, bel.frame _, fun h => by cases h⟩

theorem over : Rows.thermalDomainsKeepLimitRow.holds Try.pinned (OpenSpec.ofChange Rows.thermalDomainsKeepLimitSpec) :=
  OpenClaim.holds_of_wide 14 Try.f14 rfl rfl rfl rfl rfl rfl rfl ⟨rfl, rfl, rfl, rfl, rfl⟩ rfl rfl rfl rfl rfl (by kernel_rfl) Try.func14 (by kernel_rfl)
    (of_decide_eq_true (by kernel_rfl)) (by unfold Func.isWrapper; first | (rw [if_pos (by decide +kernel)]; kernel_rfl) | (rw [if_neg (by decide +kernel)]; exact ⟨rfl, rfl⟩))
    (fun os started H enc _ => lifted os started H enc)

/-- The statement. -/
theorem proved : Rows.ThermalDomainsKeepLimitSaid := over
#print axioms proved
end Go.Proofs.Ytiikkapdchodkaa.thermalDomainsKeepLimit
