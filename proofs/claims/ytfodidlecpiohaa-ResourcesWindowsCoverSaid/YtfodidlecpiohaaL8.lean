/-
  ResourcesWindowsCover.
-/
import Derived.Test.YtfodidlecpiohaaR9
namespace Go.Proofs.Ytfodidlecpiohaa
open Go.Eng

theorem winN_mem (T : List FS) (high : Bool) (i : Nat) (S : Nat → List Int) : ∀ n, ∀ x ∈ winN T high i S n, ∃ c, c < n ∧ x = ((i : Int), -1 - (c : Int), (c : Int), wszF (S c) c (fnAt T i).hot) ∧ WOk (S c) c (fnAt T i).hot
  | 0, x, h => by simp [winN] at h
  | n + 1, x, h => by
    simp only [winN, List.mem_append] at h
    rcases h with h | h
    · obtain ⟨c, hc, h2⟩ := winN_mem T high i S n x h
      exact ⟨c, by omega, h2⟩
    · split at h
      · rename_i hw
        simp only [List.mem_singleton] at h
        exact ⟨n, by omega, h, hw.2⟩
      · simp at h
theorem regL_idx (T : List FS) (high : Bool) (i : Nat) (B : List Bar) : ∀ n, ∀ x ∈ regL T high i B n, 0 ≤ x.2.1
  | 0, x, h => by simp [regL] at h
  | n + 1, x, h => by
    simp only [regL, List.mem_append] at h
    rcases h with h | h
    · exact regL_idx T high i B n x h
    · split at h
      · simp at h
      · simp only [List.mem_singleton] at h
        subst h
        show (0 : Int) ≤ n
        omega

/-- A window's need: the size of what lies below. -/
theorem window_need {T : List FS} {high : Bool} (hv : ValidT T) {x : Need} (hx : x ∈ needsAll T high) (hneg : x.2.1 < 0) :
    ∃ i c : Nat, i < T.length ∧ c < 3 ∧ (fnAt T i).bridge = true ∧ x = ((i : Int), -1 - (c : Int), (c : Int), wszF (belS T (needsAll T high) i c) c (fnAt T i).hot) ∧ WOk (belS T (needsAll T high) i c) c (fnAt T i).hot := by
  obtain ⟨i, hi, hxi⟩ := List.mem_flatMap.1 hx
  have hi' : i < T.length := List.mem_range.1 hi
  rw [needsAt_own' hi'] at hxi
  simp only [ownL, List.mem_append] at hxi
  rcases hxi with h | h
  · have := regL_idx _ _ _ _ _ x h; omega
  · unfold winAll at h
    split at h
    · rename_i hbr
      obtain ⟨c, hc, he, hw⟩ := winN_mem _ _ _ _ 3 x h
      rw [if_pos hc] at he hw
      have hp := tab_perm T high i c hc (T.length - 1 - i) (by omega)
      rw [← bel_later hv hi'] at hp
      exact ⟨i, c, hi', hc, hbr, by rw [he, wszF_perm hp]; rfl, (WOk_perm hp _ _).1 hw⟩
    · simp at h

theorem pow2_small {w : Nat} (h : w ≤ 60) : (2 : Int) ^ w ≤ 1152921504606846976 := by
  have := pow_mono (a := w) (b := 60) h
  have e : (2 : Int) ^ 60 = 1152921504606846976 := by decide
  omega
theorem shl_code {x : Int} (h0 : 0 ≤ x) (h1 : x ≤ 60) : IntKind.u64.wrap ((1 : Int) * 2 ^ (min (IntKind.u64.wrap x).toNat IntKind.u64.bits)) = 2 ^ x.toNat := by
  rw [u64_in (n := x) (by omega), Nat.min_eq_left (by show x.toNat ≤ 64; omega), Int.one_mul]
  have := pow2_small (w := x.toNat) (by omega)
  have : (0 : Int) < 2 ^ x.toNat := Int.pow_pos (by omega)
  exact u64_in (by omega)

theorem IsW.facts {L : Nat} {sum : Int} {w : Nat} (h : IsW L sum w) (hL : L ≤ 22) (hs : sum ≤ 18014398509481984) : w ≤ 60 ∧ sum ≤ 2 ^ w ∧ (2 : Int) ^ L ≤ 2 ^ w ∧ (2 : Int) ^ w < 2 * (if (2 : Int) ^ L > sum then (2 : Int) ^ L else sum) := by
  have h0 := pow_mono h.ge
  have hpos : (0 : Int) < 2 ^ L := Int.pow_pos (by omega)
  have h60 : w ≤ 60 := by
    rcases h.tight with e | e
    · omega
    · by_cases c : w ≤ 60
      · exact c
      · have := pow_mono (a := 60) (b := w - 1) (by omega)
        have e : (2 : Int) ^ 60 = 1152921504606846976 := by decide
        omega
  refine ⟨h60, h.fits, h0, ?_⟩
  rcases h.tight with e | e
  · rw [e]; split <;> omega
  · have hw : w = (w - 1) + 1 ∨ w = 0 := by omega
    rcases hw with hw | hw
    · have : (2 : Int) ^ w = 2 ^ (w - 1) * 2 := by conv => lhs; rw [hw, Int.pow_succ]
      split <;> omega
    · have h1 := h.ge
      have hL0 : L = 0 := by omega
      subst hw hL0
      split <;> omega

theorem least_le (c : Int) (hot : Bool) : least c hot ≤ 22 := by unfold least; split <;> (try split) <;> omega

theorem map_getD {l : List Need} {k : Nat} (h : k < l.length) : (l.map (fun x : Need => x.2.2.2)).getD k 0 = (l.getD k (0, 0, 0, 0)).2.2.2 := by
  simp [List.getD, h]

theorem law_windowsCover (H : Heap) (s : Sl) (L0 : List FS) (high : Bool) (h : Topo H s L0) (hl : L0.length ≤ 9223372036854775807) (hb : ∀ x ∈ L0, x.1.bars.length ≤ 9223372036854775807) :
    CallsH Try.prog n_law20_ResourcesWindowsCover #[.slice s.p s.n s.c, .bool high] H (BoolP true H) := by
  refine F_law20_ResourcesWindowsCover_ok _ _ ?_
  unfold F_law20_ResourcesWindowsCover
  refine (gTopo_spec H s L0 30 (by omega) h hl hb).mono ?_
  rintro v H1 ⟨t, T, rfl, hT, hv, hT30, e1⟩
  refine ⟨t, rfl, (Needs_spec T t high H1 hT).mono ?_⟩
  intro v H2 h2
  obtain ⟨a, ea, A, rfl, iA, cA, e2⟩ := h2.out hv
  refine ⟨a, ea, rfl, fun b H' => b = (ea != 0) ∧ Ext H2 H', ?_, ?_⟩
  · refine (awake_spec H2).mono ?_
    rintro v H3 ⟨rfl, e3⟩
    exact ⟨_, rfl, iteB_neg rfl ⟨rfl, e3⟩⟩
  rintro b H4 ⟨rfl, e4⟩
  have x4 := (e1.trans e2).trans e4
  unfold F_law20_ResourcesWindowsCover_k4
  have nA := iA.len
  rcases cA with ⟨rfl, rfl⟩ | ⟨rfl, rfl⟩
  case inr =>
    refine iteB_pos rfl (iteB_pos rfl (iteB_pos (by rw [nA]; rfl) ((awake_spec H4).mono ?_)))
    rintro v H5 ⟨rfl, e5⟩
    exact ⟨_, rfl, rfl, x4.trans e5⟩
  refine iteB_neg rfl ?_
  have iA4 := iA.ext e4
  have hT4 := (hT.ext e2).ext e4
  have nT := hT.len
  have lA := out_len (high := high) (e := 0) hv (.inl ⟨rfl, rfl⟩)
  refine loop1 (needsAll T high).length (fun k H' => Ext H4 H') (.refl _) ?_
  rintro k H6 hk e6
  unfold F_law20_ResourcesWindowsCover_r3
  refine iteB_d (fun c => ?_) (fun c => ⟨rfl, x4.trans e6⟩)
  have hkn : k < (needsAll T high).length := by omega
  obtain ⟨p, hp, hr⟩ := IsS.atN (iA4.ext e6) (0, 0, 0, 0) hkn
  have hm := getD_mem' (0, 0, 0, 0) hkn
  generalize (needsAll T high).getD k (0, 0, 0, 0) = x at *
  obtain ⟨x0, x1, x2, x3⟩ := x
  refine ⟨by omega, by omega, unSome_mk hp ⟨_, hr 0 _ rfl, _, hr 1 _ rfl, _, hr 2 _ rfl, _, hr 3 _ rfl, local_mk (vs := encN (x0, x1, x2, x3)) rfl rfl fun H8 e8 z8 b8 => ⟨_, b8.rd (i := 1) rfl, iteB_d (fun c1 => letV_mk _ rfl (next1 hkn (by omega) (e6.trans e8))) (fun c1 => ⟨_, b8.rd0 rfl, _, b8.rd (i := 2) rfl, ?_⟩)⟩⟩⟩
  obtain ⟨i, cc, hi, hcc, hbr, hxe, hw⟩ := window_need hv hm (Int.not_le.1 c1)
  simp only [Prod.mk.injEq] at hxe
  obtain ⟨rfl, rfl, rfl, rfl⟩ := hxe
  have e48 := e6.trans e8
  have hbel : belF T (needsAll T high) i cc = (needsAll T high).filter (belQ T i cc) := by unfold belF; rw [if_pos ⟨by omega, fun _ => by rw [Int.toNat_natCast]; exact hbr⟩]
  have hblen : ((needsAll T high).filter (belQ T i cc)).length ≤ 1024 := by
    have := hw.2.1
    unfold belS at this
    simpa using this
  obtain ⟨w, hwe, hW⟩ := wszF_isW hw
  have hInS := hw.2.2.2
  have hsum := sum_lt hInS hw.2.1
  rw [hwe] at b8
  clear hr
  unfold belS at hInS hsum hW
  refine (Below_spec T t a (needsAll T high) i cc H8 (hT4.ext e48) (iA4.ext e48) (by omega)).mono ?_
  rintro v H9 ⟨below, rfl, o9, n9, e9⟩
  rw [hbel] at o9 n9
  have i9 := Own.is rkNeed o9
  refine ⟨below, rfl, ?_⟩
  generalize (needsAll T high).filter (belQ T i cc) = Bl at *
  refine loop2 Bl.length (fun j (sum : Int) H' => sum = sumW ((Bl.map (fun x : Need => x.2.2.2)).take j) ∧ H' = H9) ⟨rfl, rfl⟩ ?_
  rintro j sum H10 hj ⟨rfl, rfl⟩
  unfold F_law20_ResourcesWindowsCover_r2
  refine iteB_d (fun d => ?_) (fun d => ?_)
  · have hjn : j < Bl.length := by omega
    have hjm : j < (Bl.map (fun x : Need => x.2.2.2)).length := by simpa using hjn
    obtain ⟨q, hq, hrq⟩ := IsS.atN i9 (0, 0, 0, 0) hjn
    have hz := inS_at hInS hjm
    have hp44 := pow44 hz
    have hstep := take_succ_getD hjm
    rw [map_getD hjn] at hz hp44 hstep
    have hin : InS ((Bl.map (fun x : Need => x.2.2.2)).take j) := fun y hy => hInS y (List.mem_of_mem_take hy)
    have hr1 := sumW_range hin
    have hsl := sum_lt hin (by simp; omega)
    refine ⟨by omega, by omega, unSome_mk hq ⟨_, hrq 3 _ rfl, u64_nonneg _, letV_mk (sumW ((Bl.map (fun x : Need => x.2.2.2)).take (j + 1))) ?_ (letV_mk _ rfl (next2 hjn (by omega) ⟨rfl, rfl⟩))⟩⟩
    rw [shl_code (by omega) (by omega), hstep, sumW_append]
    exact u64_in (by omega)
  · obtain rfl : j = Bl.length := by omega
    have htk : (Bl.map (fun x : Need => x.2.2.2)).take Bl.length = Bl.map (fun x : Need => x.2.2.2) := by rw [List.take_of_length_le]; simp
    rw [htk]
    have b10 := b8.ext e9
    obtain ⟨u, hu, hru⟩ := (hT4.ext (e48.trans e9)).at hi
    have r6 := (rdFn hru).2.2.2.2.2.2.1
    refine ⟨fun L H' => L = 2 ^ least cc (fnAt T i).hot ∧ H' = H10, ⟨_, b10.rd (i := 2) rfl, iteB_beq (fun d0 => ⟨?_, rfl⟩) (fun d0 => ⟨_, b10.rd0 rfl, by omega, by omega, unSome_mk hu ⟨_, r6, iteB_intro (fun d1 => ⟨?_, rfl⟩) (fun d1 => ⟨?_, rfl⟩)⟩⟩)⟩, ?_⟩
    · unfold least; rw [if_pos d0]; decide
    · unfold least; rw [if_neg d0, d1]; decide
    · unfold least; rw [if_neg d0, d1]; decide
    · rintro L H11 ⟨rfl, rfl⟩
      unfold F_law20_ResourcesWindowsCover_k1
      obtain ⟨f1, f2, f3, f4⟩ := hW.facts (least_le _ _) hsum
      have hp60 := pow2_small f1
      have hL2 := pow2_small (w := least cc (fnAt T i).hot) (by have := least_le cc (fnAt T i).hot; omega)
      have hL0 : (0 : Int) < 2 ^ least cc (fnAt T i).hot := Int.pow_pos (by omega)
      refine ⟨(w : Int), b10.rd (i := 3) rfl, u64_nonneg _, letV_mk ((2 : Int) ^ w) (by rw [shl_code (by omega) (by omega)]; simp) (iteB_neg (by simp; omega) (iteB_neg (by simp; omega) (iteB_neg ?_ (letV_mk _ rfl (next1 hkn (by omega) (e48.trans e9))))))⟩
      rw [u64_in (by split <;> omega)]
      simp only [decide_eq_false_iff_not, ge_iff_le, Int.not_le]
      exact f4

end Go.Proofs.Ytfodidlecpiohaa
