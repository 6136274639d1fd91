/-
  ResourcesPrefetchable, the law.
-/
import Derived.Test.YtfodidlecpiohaaL3
namespace Go.Proofs.Ytfodidlecpiohaa
open Go.Eng

theorem range_flat_len {T : List FS} {high : Bool} (hv : ValidT T) : ∀ k, k ≤ T.length → ((List.range k).flatMap (needsAt T high)).length ≤ 9 * k
  | 0, _ => by simp
  | k + 1, hk => by
    have ih := range_flat_len (high := high) hv k (by omega)
    obtain ⟨S, hS⟩ := needsAt_own (T := T) (high := high) (i := k) (by omega)
    have := ownL_len hv high (i := k) (by omega) S
    rw [range_flat_succ, List.length_append, hS]
    omega
theorem out_len {T : List FS} {high : Bool} {e : Int} {L : List Need} (hv : ValidT T) (h : (e = 0 ∧ L = needsAll T high) ∨ (e = 11 ∧ L = [])) : L.length ≤ 1000 := by
  rcases h with ⟨_, rfl⟩ | ⟨_, rfl⟩
  · have h1 := range_flat_len (high := high) hv T.length (Nat.le_refl _)
    have h2 := hv.1
    unfold needsAll
    omega
  · simp

theorem law_prefetchable (H : Heap) (s : Sl) (L0 : List FS) (h : Topo H s L0) (hl : L0.length ≤ 9223372036854775807) (hb : ∀ x ∈ L0, x.1.bars.length ≤ 9223372036854775807) :
    CallsH Try.prog n_law20_ResourcesPrefetchable #[.slice s.p s.n s.c] H (BoolP true H) := by
  refine F_law20_ResourcesPrefetchable_ok _ ?_
  unfold F_law20_ResourcesPrefetchable
  refine (gTopo_spec H s L0 30 (by omega) h hl hb).mono ?_
  rintro v H1 ⟨t, T, rfl, hT, hv, hT30, e1⟩
  refine ⟨t, rfl, (Needs_spec T t false H1 hT).mono ?_⟩
  intro v H2 h2
  obtain ⟨a, ea, A, rfl, iA, cA, e2⟩ := h2.out hv
  refine ⟨a, ea, rfl, (Needs_spec T t true H2 (hT.ext e2)).mono ?_⟩
  intro v H3 h3
  obtain ⟨b, eb, B, rfl, iB, cB, e3⟩ := h3.out hv
  have nA := iA.len
  have nB' := iB.len
  have nT := hT.len
  have x3 := (e1.trans e2).trans e3
  have iA3 := iA.ext e3
  have hT3 := (hT.ext e2).ext e3
  have lA := out_len hv cA
  have lB := out_len hv cB
  refine ⟨b, eb, rfl, ?_⟩
  refine loop1 A.length (fun k H' => H' = H3) rfl ?_
  rintro k H4 hk rfl
  unfold F_law20_ResourcesPrefetchable_r3
  refine iteB_d (fun c => ?_) (fun c => ?_)
  · have hkn : k < A.length := by omega
    obtain ⟨p, hp, hr⟩ := IsS.atN iA3 (0, 0, 0, 0) hkn
    have hm : A.getD k (0, 0, 0, 0) ∈ A := by simp [List.getD, hkn]
    obtain ⟨i, hi, hpr⟩ := out_mem cA hm
    refine ⟨by omega, by omega, unSome_mk hp ⟨_, hr 2 _ rfl, iteB_beq (fun c1 => ?_) (fun c1 => letV_mk _ rfl (next1 hkn (by omega) rfl))⟩⟩
    have := (hpr.2 c1).1
    cases this
  · refine loop1 B.length (fun k H' => H' = H4) rfl ?_
    rintro j H5 hj rfl
    unfold F_law20_ResourcesPrefetchable_r2
    refine iteB_d (fun c2 => ?_) (fun c2 => ?_)
    · have hjn : j < B.length := by omega
      obtain ⟨p, hp, hr⟩ := IsS.atN iB (0, 0, 0, 0) hjn
      have hm : B.getD j (0, 0, 0, 0) ∈ B := by simp [List.getD, hjn]
      obtain ⟨i, hi, hpr⟩ := out_mem cB hm
      generalize B.getD j (0, 0, 0, 0) = x at *
      have hx1 := hpr.1
      obtain ⟨q, hq, hrq⟩ := hT3.at hi
      have hpa := (hv.2 i hi).pa
      refine ⟨by omega, by omega, unSome_mk hp ⟨_, hr 0 _ rfl, by omega, by omega, unSome_mk hq ⟨_, by rw [hx1]; exact (rdFn hrq).1, fun p1 H' => H' = H5 ∧ -1 ≤ p1 ∧ p1 < T.length ∧ (x.2.2.1 = 2 → abF T (p1.toNat + 1) p1 = true), fun p1 _ => (p1 + 1).toNat, ⟨rfl, by omega, by omega, fun h2 => ?_⟩, ?_⟩⟩⟩
      · have := (hpr.2 h2).2
        unfold aboveF at this
        rw [abF_fuel hv _ _ (by omega) (by omega)] at this
        exact this
      · rintro p1 H6 ⟨rfl, hp0, hpT, hab⟩
        unfold F_law20_ResourcesPrefetchable_r1
        refine iteB_d (fun d1 => ?_) (fun d1 => letV_mk _ rfl (next1 hjn (by omega) rfl))
        obtain ⟨m, rfl⟩ := Int.eq_ofNat_of_zero_le d1
        refine ⟨by omega, by omega, unSome_mk hp ⟨_, hr 2 _ rfl, iteB_beq (fun d2 => ?_) (fun d2 => letV_mk _ rfl (next1 hjn (by omega) rfl))⟩⟩
        obtain ⟨u, hu, hru⟩ := hT3.at (i := m) (by omega)
        obtain ⟨r0, _, _, _, _, r5, _⟩ := rdFn hru
        have hpm := (hv.2 m (by omega)).pa
        have hab2 := hab d2
        have hpf : (fnAt T m).pref = true := by
          cases hq' : (fnAt T m).pref
          · unfold abF at hab2
            rw [if_neg (by omega), Int.toNat_natCast, if_pos hq'] at hab2
            cases hab2
          · rfl
        refine ⟨by omega, by omega, unSome_mk hu ⟨_, r5, iteB_neg (by rw [hpf]; rfl) ⟨by omega, by omega, unSome_mk hu ⟨_, r0, ⟨rfl, by omega, by omega, fun _ => ?_⟩, by dsimp only; omega⟩⟩⟩⟩
        rw [← abF_step hv (by omega) hpf]
        exact hab2
    · refine (awake_spec H5).mono ?_
      rintro v H7 ⟨rfl, e7⟩
      have xx := x3.trans e7
      refine ⟨_, rfl, iteB_pos rfl ?_⟩
      rcases cA with ⟨rfl, _⟩ | ⟨rfl, _⟩ <;> rcases cB with ⟨rfl, _⟩ | ⟨rfl, _⟩ <;> exact ⟨rfl, xx⟩

end Go.Proofs.Ytfodidlecpiohaa
