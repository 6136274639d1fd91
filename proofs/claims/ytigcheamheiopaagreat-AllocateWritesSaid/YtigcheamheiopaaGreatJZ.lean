import Derived.Test.YtigcheamheiopaaGreatJW
import Derived.Test.YtigcheamheiopaaGreatA16

section
/-
 AllocateWrites (plain): a bridge's windows after the writes.
-/
namespace Go.Proofs.YtigcheamheiopaaGreat
open Go.Eng
set_option linter.unusedVariables false

theorem win_byte {T : List FS} {A : List Asg} {i : Nat} (ok : RegOk (fnAt T i) A i) (h6 : (fnAt T i).bars.length ≤ 6) (hb : (fnAt T i).bridge = true) {x : Op} (hx : x ∈ brL (fnAt T i).pref A i 3) {q : Nat} (hq : CovQ x q) (hf : Formed x.2.1 x.2.2.1) (hu : ∀ y ∈ brL (fnAt T i).pref A i 3, CovQ y q → y = x) {ys ms : Nat → Int} (hys : Bytes ys) (hms : Bytes ms) :
  appL ms ys (wrI T A i) q = wrB (ys q) (ms q) (byteOf x.2.2.2 (q - x.2.1.toNat)) := by
 refine app_uni (hms _) (byteOf_range _ _) _ _ hys (fun y hy hc => ?_) ⟨x, ?_, hq⟩
 ·have hxa := brL_at 3 x hx
  unfold wrI at hy
  rw [List.mem_append, List.mem_append] at hy
  rcases hy with (hy | hy) | hy
  ·exfalso
   obtain ⟨j, hj, g1, g2, hyb⟩ := regsL_mem _ y hy
   obtain ⟨_, _, _, hzb⟩ := ok.bl _ (getD_mem' (l := A) (k := j) zA hj) g1 g2
   have hzb := hzb hb
   unfold CovQ at hq hc
   rcases barL_at hyb with ⟨k1, k2, _⟩ | ⟨kk, k1, k2, _⟩
   ·split at hzb <;> omega
   ·rw [if_pos kk] at hzb
    omega
  ·rw [if_pos hb] at hy
   have := hu y hy hc
   subst this
   exact ⟨hf, rfl⟩
  ·exfalso
   simp only [List.mem_singleton] at hy
   subst hy
   unfold CovQ at hq hc
   simp at hc
   omega
 ·unfold wrI
  rw [List.mem_append, List.mem_append, if_pos hb]
  exact .inl (.inr hx)

theorem brL_list (p : Bool) (A : List Asg) (i : Int) : brL p A i 3 =
  [(i, 28, 1, bnd (sh (flA A i 0).1 8) 240), (i, 29, 1, bnd (sh (flA A i 0).2 8) 240), (i, 32, 2, bnd (sh (flA A i 1).1 16) 65520), (i, 34, 2, bnd (sh (flA A i 1).2 16) 65520)] ++
  (if p = true then [(i, 36, 2, bnd (sh (flA A i 2).1 16) 65520), (i, 38, 2, bnd (sh (flA A i 2).2 16) 65520), (i, 40, 4, sh (flA A i 2).1 32), (i, 44, 4, sh (flA A i 2).2 32)] else []) := by
 simp [brL, winC]
theorem brL_one {p : Bool} {A : List Asg} {i : Int} {x : Op} (hx : x ∈ brL p A i 3) {q : Nat} (hq : CovQ x q) : ∀ y ∈ brL p A i 3, CovQ y q → y = x := fun y hy hc => by
 rw [brL_list] at hx hy
 rw [List.mem_append] at hx hy
 unfold CovQ at hq hc
 have key : ∀ z : Op, (z ∈ [((i, 28, 1, bnd (sh (flA A i 0).1 8) 240) : Op), (i, 29, 1, bnd (sh (flA A i 0).2 8) 240), (i, 32, 2, bnd (sh (flA A i 1).1 16) 65520), (i, 34, 2, bnd (sh (flA A i 1).2 16) 65520)] ∨ z ∈ (if p = true then [((i, 36, 2, bnd (sh (flA A i 2).1 16) 65520) : Op), (i, 38, 2, bnd (sh (flA A i 2).2 16) 65520), (i, 40, 4, sh (flA A i 2).1 32), (i, 44, 4, sh (flA A i 2).2 32)] else [])) →
   z = (i, 28, 1, bnd (sh (flA A i 0).1 8) 240) ∨ z = (i, 29, 1, bnd (sh (flA A i 0).2 8) 240) ∨ z = (i, 32, 2, bnd (sh (flA A i 1).1 16) 65520) ∨ z = (i, 34, 2, bnd (sh (flA A i 1).2 16) 65520) ∨ z = (i, 36, 2, bnd (sh (flA A i 2).1 16) 65520) ∨ z = (i, 38, 2, bnd (sh (flA A i 2).2 16) 65520) ∨ z = (i, 40, 4, sh (flA A i 2).1 32) ∨ z = (i, 44, 4, sh (flA A i 2).2 32) := fun z hz => by
  rcases hz with h | h
  ·simp only [List.mem_cons, List.not_mem_nil, or_false] at h
   rcases h with h | h | h | h <;> simp only [h, true_or, or_true]
  ·split at h
   ·simp only [List.mem_cons, List.not_mem_nil, or_false] at h
    rcases h with h | h | h | h <;> simp only [h, true_or, or_true]
   ·cases h
 have k1 := key x hx
 have k2 := key y hy
 clear key hx hy
 rcases k1 with h | h | h | h | h | h | h | h <;> rcases k2 with h' | h' | h' | h' | h' | h' | h' | h' <;> first | (rw [h, h']; done) | (exfalso; rw [h] at hq; rw [h'] at hc; dsimp only at hq hc; omega)

/-! ### the first bytes of a bridge's windows -/
theorem byteC : byteOf 61680 0 = 240 ∧ byteOf 61680 1 = 240 ∧ byteOf 4293984240 0 = 240 ∧ byteOf 4293984240 1 = 255 ∧ byteOf 4293984240 2 = 240 ∧ byteOf 4293984240 3 = 255 ∧ byteOf 65537 0 = 1 ∧ byteOf 65537 1 = 0 ∧ byteOf 65537 2 = 1 ∧ byteOf 65537 3 = 0 ∧ (∀ j, j < 8 → byteOf 18446744073709551615 j = 255) := by decide +kernel
theorem sbr_w (s : d_St) : ((sbr s).1 28 = 0 ∧ (sbr s).2 28 = 240) ∧ ((sbr s).1 29 = 0 ∧ (sbr s).2 29 = 240) ∧ ∀ j, j < 4 → (sbr s).1 (32 + j) = 0 ∧ (sbr s).2 (32 + j) = if j % 2 = 0 then 240 else 255 := by
 obtain ⟨c0, c1, c2, c3, c4, c5, c6⟩ := byteC
 refine ⟨?_, ?_, fun j hj => ?_⟩
 ·simp [sbr, sdef, d_setB, byteOf_zero, c0]
 ·simp [sbr, sdef, d_setB, byteOf_zero, c1]
 ·rcases (by omega : j = 0 ∨ j = 1 ∨ j = 2 ∨ j = 3) with rfl | rfl | rfl | rfl <;> simp [sbr, sdef, d_setB, byteOf_zero, c2, c3, c4, c5]
theorem spf_w (s : d_St) : (∀ j, j < 4 → (spf s).1 (36 + j) = (if j % 2 = 0 then 1 else 0) ∧ (spf s).2 (36 + j) = if j % 2 = 0 then 240 else 255) ∧ ∀ j, j < 8 → (spf s).1 (40 + j) = 0 ∧ (spf s).2 (40 + j) = 255 := by
 obtain ⟨c0, c1, c2, c3, c4, c5, c6, c7, c8, c9, c10⟩ := byteC
 refine ⟨fun j hj => ?_, fun j hj => ?_⟩
 ·rcases (by omega : j = 0 ∨ j = 1 ∨ j = 2 ∨ j = 3) with rfl | rfl | rfl | rfl <;> simp [spf, sdef, d_setB, c2, c3, c4, c5, c6, c7, c8, c9]
 ·have e : byteOf 18446744073709551615 (40 + j - 40) = 255 := by rw [show 40 + j - 40 = j by omega]; exact c10 j hj
  unfold spf sdef d_setB
  dsimp only
  rw [if_pos (by omega), if_pos (by omega), e]
  exact ⟨byteOf_zero _, rfl⟩
theorem sinit_sbr {f : Fn} (hb : f.bridge = true) {q : Nat} (hq : q < 36) : (sinit f).1 q = (sbr (sbars (sbase f) f.bars (regs f.bridge))).1 q ∧ (sinit f).2 q = (sbr (sbars (sbase f) f.bars (regs f.bridge))).2 q := by
 unfold sinit
 rw [if_pos hb]
 unfold sbridge
 split
 ·exact spf_out (.inl hq)
 ·exact ⟨rfl, rfl⟩
theorem sinit_spf {f : Fn} (hb : f.bridge = true) (hp : f.pref = true) : sinit f = spf (sbr (sbars (sbase f) f.bars (regs f.bridge))) := by
 unfold sinit
 rw [if_pos hb]
 unfold sbridge
 rw [if_pos hp]

theorem u6_wrap (x : Int) : U6 (IntKind.u64.wrap x) := by
 rw [d_u64_wrap]
 unfold U6
 omega
theorem flA_u6 {A : List Asg} (hA : ∀ x ∈ A, 0 ≤ x.2 ∧ x.2 < 18446744073709551616) (i : Int) (c : Nat) : U6 (flA A i c).1 ∧ U6 (flA A i c).2 := by
 unfold flA
 cases hw : atN (A.map Prod.fst) i (-1 - (c : Int)) with
 | none => exact ⟨⟨by show (0 : Int) ≤ 18446744073709551615; decide, by show (18446744073709551615 : Int) < 18446744073709551616; decide⟩, ⟨by show (0 : Int) ≤ 0; decide, by show (0 : Int) < 18446744073709551616; decide⟩⟩
 | some w =>
  have hl := (atN_spec hw).1
  rw [List.length_map] at hl
  refine ⟨?_, u6_wrap _⟩
  dsimp only
  rw [map_getD2 hl]
  exact hA _ (getD_mem' (l := A) (k := w) zA hl)

def wwN (ys : Nat → Int) (A : List Asg) (i : Int) : Nat → List WR
 | 0 => []
 | c + 1 => wwN ys A i c ++ winW ys c (flA A i c).1 (flA A i c).2
theorem win_dev {T : List FS} {A : List Asg} {i : Nat} (ok : RegOk (fnAt T i) A i) (h6 : (fnAt T i).bars.length ≤ 6) (hb : (fnAt T i).bridge = true) (hA : ∀ x ∈ A, 0 ≤ x.2 ∧ x.2 < 18446744073709551616) (hnp : (fnAt T i).pref = false → atN (A.map Prod.fst) i (-1 - ((2 : Nat) : Int)) = none) :
  brX (appL (sinit (fnAt T i)).2 (sinit (fnAt T i)).1 (wrI T A i)) (fnAt T i) = wwN (appL (sinit (fnAt T i)).2 (sinit (fnAt T i)).1 (wrI T A i)) A i 3 := by
 have hy0 := sinit_bytes (fnAt T i)
 have hm0 := sinit_mb (fnAt T i)
 have hall : ∀ x : Op, x ∈ brL (fnAt T i).pref A i 3 → ∀ q, CovQ x q → Formed x.2.1 x.2.2.1 → appL (sinit (fnAt T i)).2 (sinit (fnAt T i)).1 (wrI T A i) q = wrB ((sinit (fnAt T i)).1 q) ((sinit (fnAt T i)).2 q) (byteOf x.2.2.2 (q - x.2.1.toNat)) := fun x hx q hq hf => win_byte ok h6 hb hx hq hf (brL_one hx hq) hy0 hm0
 generalize hys : appL (sinit (fnAt T i)).2 (sinit (fnAt T i)).1 (wrI T A i) = ys at *
 rw [brL_list] at hall
 have hu := fun c => flA_u6 hA (i : Int) c
 have s0 : ∀ (x k : Int) (n : Nat), k.toNat = n → n ≤ 64 → sh x k = x.fdiv (2 ^ n) := fun x k n h1 h2 => by
  unfold sh
  rw [h1, Nat.min_eq_left (by rw [show IntKind.u64.bits = 64 from rfl]; exact h2)]
 obtain ⟨r28, r29, r32⟩ := sbr_w (sbars (sbase (fnAt T i)) (fnAt T i).bars (regs (fnAt T i).bridge))
 have i28 := sinit_sbr hb (q := 28) (by omega)
 have i29 := sinit_sbr hb (q := 29) (by omega)
 have i32 := fun j (hj : j < 4) => sinit_sbr hb (q := 32 + j) (by omega)
 have fm : ∀ o w : Int, (w = 1 ∨ w = 2 ∨ w = 4) → 28 ≤ o → o < 48 → o % w = 0 → Formed o w := fun o w h1 h2 h3 h4 => ⟨h1, by omega, by omega, h4⟩
 have a0 : d_aw0 ys = winW ys 0 (flA A i 0).1 (flA A i 0).2 := by
  refine w_aw0 (hu 0) ?_ ?_
  ·have := hall (i, 28, 1, bnd (sh (flA A i 0).1 8) 240) (by simp) 28 (by unfold CovQ; simp) (fm 28 1 (.inl rfl) (by decide) (by decide) (by decide))
   rw [this, i28.1, i28.2, r28.1, r28.2, s0 _ 8 8 rfl (by omega)]
   rfl
  ·have := hall (i, 29, 1, bnd (sh (flA A i 0).2 8) 240) (by simp) 29 (by unfold CovQ; simp) (fm 29 1 (.inl rfl) (by decide) (by decide) (by decide))
   rw [this, i29.1, i29.2, r29.1, r29.2, s0 _ 8 8 rfl (by omega)]
   rfl
 have a1 : d_aw1 ys = winW ys 1 (flA A i 1).1 (flA A i 1).2 := by
  refine w_aw1 (hu 1) (fun j hj => ?_) (fun j hj => ?_)
  ·have := hall (i, 32, 2, bnd (sh (flA A i 1).1 16) 65520) (by simp) (32 + j) (by unfold CovQ; simp; omega) (fm 32 2 (.inr (.inl rfl)) (by decide) (by decide) (by decide))
   rw [this, (i32 j (by omega)).1, (i32 j (by omega)).2, (r32 j (by omega)).1, (r32 j (by omega)).2, s0 _ 16 16 rfl (by omega)]
   rcases (by omega : j = 0 ∨ j = 1) with rfl | rfl <;> rfl
  ·have := hall (i, 34, 2, bnd (sh (flA A i 1).2 16) 65520) (by simp) (34 + j) (by unfold CovQ; simp; omega) (fm 34 2 (.inr (.inl rfl)) (by decide) (by decide) (by decide))
   have k := i32 (j + 2) (by omega)
   have k2 := r32 (j + 2) (by omega)
   rw [show 32 + (j + 2) = 34 + j by omega] at k k2
   rw [this, k.1, k.2, k2.1, k2.2, s0 _ 16 16 rfl (by omega)]
   rcases (by omega : j = 0 ∨ j = 1) with rfl | rfl <;> rfl
 have e3 : wwN ys A i 3 = winW ys 0 (flA A i 0).1 (flA A i 0).2 ++ winW ys 1 (flA A i 1).1 (flA A i 1).2 ++ winW ys 2 (flA A i 2).1 (flA A i 2).2 := by simp only [wwN, List.nil_append]
 unfold brX
 rw [if_pos hb, a0, a1, e3]
 congr 1
 cases hp : (fnAt T i).pref with
 | false =>
  have : flA A i 2 = (18446744073709551615, 0) := by
   unfold flA
   rw [hnp hp]
  rw [this, if_neg (by simp)]
  exact winW_none.symm
 | true =>
  rw [if_pos rfl]
  rw [if_pos hp] at hall
  obtain ⟨p36, p40⟩ := spf_w (sbr (sbars (sbase (fnAt T i)) (fnAt T i).bars (regs (fnAt T i).bridge)))
  rw [← sinit_spf hb hp] at p36 p40
  refine w_aw2 (hu 2) (fun j hj => ?_) (fun j hj => ?_) (fun j hj => ?_) (fun j hj => ?_)
  ·have := hall (i, 36, 2, bnd (sh (flA A i 2).1 16) 65520) (by simp) (36 + j) (by unfold CovQ; simp; omega) (fm 36 2 (.inr (.inl rfl)) (by decide) (by decide) (by decide))
   rw [this, (p36 j (by omega)).1, (p36 j (by omega)).2, s0 _ 16 16 rfl (by omega)]
   rcases (by omega : j = 0 ∨ j = 1) with rfl | rfl <;> rfl
  ·have := hall (i, 38, 2, bnd (sh (flA A i 2).2 16) 65520) (by simp) (38 + j) (by unfold CovQ; simp; omega) (fm 38 2 (.inr (.inl rfl)) (by decide) (by decide) (by decide))
   have k := p36 (j + 2) (by omega)
   rw [show 36 + (j + 2) = 38 + j by omega] at k
   rw [this, k.1, k.2, s0 _ 16 16 rfl (by omega)]
   rcases (by omega : j = 0 ∨ j = 1) with rfl | rfl <;> rfl
  ·have := hall (i, 40, 4, sh (flA A i 2).1 32) (by simp) (40 + j) (by unfold CovQ; simp; omega) (fm 40 4 (.inr (.inr rfl)) (by decide) (by decide) (by decide))
   rw [this, (p40 j (by omega)).1, (p40 j (by omega)).2, s0 _ 32 32 rfl (by omega)]
   congr 2
   simp
  ·have := hall (i, 44, 4, sh (flA A i 2).2 32) (by simp) (44 + j) (by unfold CovQ; simp; omega) (fm 44 4 (.inr (.inr rfl)) (by decide) (by decide) (by decide))
   have k := p40 (j + 4) (by omega)
   rw [show 40 + (j + 4) = 44 + j by omega] at k
   rw [this, k.1, k.2, s0 _ 32 32 rfl (by omega)]
   congr 2
   simp

end Go.Proofs.YtigcheamheiopaaGreat
end

section
/-
 AllocateWrites (plain): a bridge's windows, as a list.
-/
namespace Go.Proofs.YtigcheamheiopaaGreat
open Go.Eng
set_option linter.unusedVariables false

theorem winN_of (T : List FS) (high : Bool) (i : Nat) (S : Nat → List Int) : ∀ n, ∀ x ∈ winN T high i S n, ∃ c : Nat, c < n ∧ x = ((i : Int), -1 - (c : Int), (c : Int), wszF (S c) c (fnAt T i).hot) ∧ WCond T high i c ∧ WOk (S c) c (fnAt T i).hot
 | 0, x, hx => by simp [winN] at hx
 | n + 1, x, hx => by
  simp only [winN] at hx
  rcases List.mem_append.1 hx with hx | hx
  ·obtain ⟨c, hc, h⟩ := winN_of T high i S n x hx
   exact ⟨c, by omega, h⟩
  ·split at hx
   ·rename_i hk
    simp only [List.mem_singleton] at hx
    exact ⟨n, by omega, hx, hk⟩
   ·cases hx
def sofN (T : List FS) (high : Bool) (i c : Nat) : List Int := if c < 3 then (nB T high (T.length - 1 - i)).2 (i * 3 + c) else []
theorem winAll_eq {T : List FS} {high : Bool} {i : Nat} : winAll T high i (fun c => if c < 3 then (nB T high (T.length - 1 - i)).2 (i * 3 + c) else []) = if (fnAt T i).bridge = true then winN T high i (sofN T high i) 3 else [] := rfl
theorem need_own {T : List FS} {high : Bool} {i : Nat} (hi : i < T.length) {x : Need} (hx : x ∈ needsAll T high) (hf : x.1 = i) : x ∈ needsAt T high i := by
 have h1 := needs_of (T := T) (high := high) (i := i) T.length (Nat.le_refl _)
 rw [if_pos hi] at h1
 rw [← h1]
 exact List.mem_filter.2 ⟨hx, by simpa using hf⟩
theorem need_win {T : List FS} {high : Bool} {i : Nat} (hi : i < T.length) {x : Need} (hx : x ∈ needsAll T high) (hf : x.1 = i) (h0 : x.2.1 < 0) : (fnAt T i).bridge = true ∧ x ∈ winN T high i (sofN T high i) 3 := by
 have hm := need_own hi hx hf
 rw [needsAt_own' hi] at hm
 unfold ownL at hm
 rw [winAll_eq] at hm
 rcases List.mem_append.1 hm with hm | hm
 ·exfalso
  obtain ⟨j, _, _, e⟩ := regL_of T high i _ _ x hm
  rw [e] at h0
  dsimp only at h0
  omega
 ·split at hm
  ·rename_i hb
   exact ⟨hb, hm⟩
  ·cases hm
theorem wsz_least {S : List Int} {c : Nat} {hot : Bool} (h : WOk S c hot) : (if c = 0 then 12 else 20) ≤ (wszF S c hot).toNat := by
 obtain ⟨w, hw, hi⟩ := wszF_isW h
 have h1 := hi.ge
 rw [hw, Int.toNat_natCast]
 unfold least at h1
 split
 ·rename_i hc
  subst hc
  rw [if_pos (by rfl)] at h1
  exact h1
 ·rename_i hc
  rw [if_neg (by omega)] at h1
  split at h1 <;> omega

theorem asg_pair {T : List FS} {high : Bool} {A : List Asg} (hv : ValidT T) (hA : A.map Prod.fst = needsAll T high) : A.Pairwise (fun a b => kapA a < kapA b) := by
 have h := needs_kap (high := high) hv
 rw [← hA, List.pairwise_map] at h
 exact h
theorem flA_some {T : List FS} {high : Bool} {A : List Asg} (hv : ValidT T) (hA : A.map Prod.fst = needsAll T high) {x : Asg} (hx : x ∈ A) {i : Int} {c : Nat} (h1 : x.1.1 = i) (h2 : x.1.2.1 = -1 - (c : Int)) : flA A i c = (x.2, IntKind.u64.wrap (IntKind.u64.wrap (x.2 + 2 ^ szA x) - 1)) := by
 obtain ⟨w, hw⟩ := atN_of_mem (List.mem_map.2 ⟨x, hx, rfl⟩ : x.1 ∈ A.map Prod.fst)
 rw [h1, h2] at hw
 obtain ⟨hwl, k1, k2⟩ := atN_spec hw
 rw [List.length_map] at hwl
 rw [map_getD1 hwl] at k1 k2
 have he : A.getD w zA = x := kap_uni (asg_pair hv hA) (getD_mem' (l := A) (k := w) zA hwl) hx (by rw [k1, h1]) (by rw [k2, h2])
 unfold flA
 rw [hw]
 dsimp only
 rw [map_getD1 hwl, map_getD2 hwl, he]
theorem atN_nowin {T : List FS} {high : Bool} {A : List Asg} {i c : Nat} (hi : i < T.length) (hA : A.map Prod.fst = needsAll T high) (hn : ¬ (WCond T high i c ∧ WOk (sofN T high i c) c (fnAt T i).hot)) : atN (A.map Prod.fst) (i : Int) (-1 - (c : Int)) = none := by
 cases hw : atN (A.map Prod.fst) (i : Int) (-1 - (c : Int)) with
 | none => rfl
 | some w =>
  exfalso
  obtain ⟨hwl, k1, k2⟩ := atN_spec hw
  rw [hA] at hwl k1 k2
  have hm := getD_mem' (l := needsAll T high) (k := w) (0, 0, 0, 0) hwl
  generalize (needsAll T high).getD w (0, 0, 0, 0) = y at *
  obtain ⟨_, hin⟩ := need_win hi hm k1 (by omega)
  obtain ⟨c', _, e, h1, h2⟩ := winN_of T high i _ 3 y hin
  rw [e] at k2
  dsimp only at k2
  obtain rfl : c' = c := by omega
  exact hn ⟨h1, h2⟩

theorem wins_got {T : List FS} {high : Bool} {A : List Asg} {i : Nat} (hv : ValidT T) (hi : i < T.length) (hA : A.map Prod.fst = needsAll T high) (bs : BsOk A) (ys : Nat → Int) (hen : ∀ x ∈ A, x.1.1 = i → ∀ c : Int, (c = 0 ↔ x.1.2.2.1 = 0) → enF ys c = true) :
  ∀ n, n ≤ 3 → ∀ W : List Asg, (∀ x ∈ W, x ∈ A) → W.map Prod.fst = winN T high i (sofN T high i) n → gotF (wwN ys A i n) = W.map rowF
 | 0, _, W, _, hW => by
  have : W = [] := List.map_eq_nil_iff.1 hW
  subst this
  rfl
 | n + 1, hn, W, hs, hW => by
  simp only [winN] at hW
  simp only [wwN]
  rw [gotF_append]
  by_cases hc : WCond T high i n ∧ WOk (sofN T high i n) n (fnAt T i).hot
  ·rw [if_pos hc] at hW
   obtain ⟨W1, W2, rfl, h1, h2⟩ := List.map_eq_append_iff.1 hW
   obtain ⟨x, rfl, hx⟩ := List.map_eq_singleton_iff.1 h2
   rw [wins_got hv hi hA bs ys hen n (by omega) W1 (fun y hy => hs y (by simp [hy])) h1, List.map_append]
   congr 1
   have hxA := hs x (by simp)
   have e0 : x.1.1 = i := by rw [hx]
   have e1 : x.1.2.1 = -1 - (n : Int) := by rw [hx]
   have e2 : x.1.2.2.1 = n := by rw [hx]
   have e3 : x.1.2.2.2 = wszF (sofN T high i n) n (fnAt T i).hot := by rw [hx]
   have hk := wsz_least hc.2
   rw [← e3] at hk
   have hE := hen x hxA e0 (n : Int) (by rw [e2])
   rw [flA_some hv hA hxA e0 e1, winW_some (by omega) hk (bs.al x hxA) (bs.lo x hxA) (by
    have b0 := bs.io x hxA
    have b1 := bs.mem x hxA
    have b2 := bs.hi x hxA
    rw [e2] at b0 b1
    split
    ·exact b0 (by omega)
    ·split
     ·exact b1 (by omega)
     ·exact b2)]
   unfold gotF rowF
   rw [hE]
   simp [e1]
  ·rw [if_neg hc, List.append_nil] at hW
   have hf : flA A (i : Int) n = (18446744073709551615, 0) := by
    unfold flA
    rw [atN_nowin hi hA hc]
   rw [hf, winW_none, wins_got hv hi hA bs ys hen n (by omega) W hs hW]
   show _ ++ [] = _
   rw [List.append_nil]

theorem winsF_more (ys : Nat → Int) (B : List Bar) : ∀ n, B.length ≤ n → winsF ys B n = winsF ys B B.length
 | 0, h => by
  have : B.length = 0 := by omega
  rw [this]
 | n + 1, h => by
  by_cases e : B.length = n + 1
  ·rw [e]
  ·have hb : bk B n = 0 := by
    unfold bk
    simp [List.getD, List.getElem?_eq_none (show B.length ≤ n by omega)]
   simp only [winsF]
   rw [if_pos hb, List.append_nil, winsF_more ys B n (by omega)]

theorem dev_ok {T : List FS} {high : Bool} {A : List Asg} {i : Nat} (hv : ValidT T) (hi : i < T.length) (hA : A.map Prod.fst = needsAll T high) (bs : BsOk A) : DevOk T A (wrF T A T.length) i := by
 unfold DevOk
 rw [opsI_wrF, if_pos hi]
 have hF := (hv.2 i hi).va
 have hbl := hF.bl
 have hr := regs_le (fnAt T i).bridge
 rw [winsF_more _ _ _ hbl, gotF_append]
 have ha := asg_of hi hA
 rw [needsAt_own' hi] at ha
 unfold ownL at ha
 rw [winAll_eq] at ha
 obtain ⟨R, W, hRW, h1, h2⟩ := List.map_eq_append_iff.1 ha
 have hsub : ∀ x ∈ R ++ W, x ∈ A := fun x hx => by
  rw [← hRW] at hx
  exact (List.mem_filter.1 hx).1
 unfold wantF
 rw [hRW, List.map_append]
 have g1 := regs_got hv hi hA bs _ (Nat.le_refl _) R (fun x hx => hsub x (List.mem_append.2 (.inl hx))) h1
 rw [g1]
 congr 1
 cases hb : (fnAt T i).bridge with
 | false =>
  rw [hb] at h2
  have h2' : W.map Prod.fst = [] := by rw [h2, if_neg (by simp)]
  have : W = [] := List.map_eq_nil_iff.1 h2'
  subst this
  unfold brX
  rw [if_neg (by rw [hb]; simp)]
  rfl
 | true =>
  rw [if_pos hb] at h2
  have ok := reg_ok hv hi hA
  rw [win_dev ok (by omega) hb (fun x hx => by
   have h1 := bs.lo x hx
   have h2 := bs.hi x hx
   have := pow_pos2 (szA x)
   omega) (fun hp => atN_nowin hi hA (fun hh => by
   have := (hh.1 rfl).2.1
   rw [hp] at this
   cases this))]
  exact wins_got hv hi hA bs _ (fun x hx hf c hc => dev_en hx hf hc) 3 (Nat.le_refl _) W (fun x hx => hsub x (List.mem_append.2 (.inr hx))) h2

end Go.Proofs.YtigcheamheiopaaGreat
end

section
/-
 AllocateWrites (plain): what is assigned passes the check (from al/P10, P11, N6; mkA19.py); so the bases are as they have to be.
-/
namespace Go.Proofs.YtigcheamheiopaaGreat
open Go.Eng
set_option linter.unusedVariables false

def InSp (l : List Rg) (b n : Int) : Prop := ∃ r ∈ l, r.1 ≤ b ∧ b + n ≤ r.1 + r.2
instance (l : List Rg) (b n : Int) : Decidable (InSp l b n) := by unfold InSp; infer_instance
def OvA (x y : Asg) : Prop := if x.2 < y.2 then y.2 - x.2 < 2 ^ x.1.2.2.2.toNat else x.2 - y.2 < 2 ^ y.1.2.2.2.toNat
instance (x y : Asg) : Decidable (OvA x y) := by unfold OvA; infer_instance

def parA (T : List FS) (x : Asg) : Int := (fnAt T x.1.1.toNat).parent
abbrev clA (x : Asg) : Int := x.1.2.2.1
def spaceAt (T : List FS) (h : Host) (A : List Asg) (x : Asg) : List Rg :=
 if 0 ≤ parA T x then (match atN (A.map Prod.fst) (parA T x) (-1 - clA x) with | some w => [winF (A.map Prod.fst) (A.map Prod.snd) w] | none => []) else spaceF h (clA x)
structure ChkAt (T : List FS) (h : Host) (A : List Asg) (i : Nat) : Prop where
 al : (A.getD i zA).2 % 2 ^ szA (A.getD i zA) = 0
 sp : InSp (spaceAt T h A (A.getD i zA)) (A.getD i zA).2 (2 ^ szA (A.getD i zA))
 ne : ∀ k, k < i → parA T (A.getD k zA) = parA T (A.getD i zA) → clA (A.getD k zA) = clA (A.getD i zA) → ¬ OvA (A.getD i zA) (A.getD k zA)
structure ChkIs (T : List FS) (h : Host) (A : List Asg) : Prop where
 v : ValidT T
 vh : ValidH h
 nd : NeedsIs T (hiF h) 0 (A.map Prod.fst)
 at' : ∀ i, i < A.length → ChkAt T h A i

theorem NeedsIs.all {T : List FS} {high : Bool} {N : List Need} (h : NeedsIs T high 0 N) : ValidT T ∧ ¬ Ovf T high ∧ N = needsAll T high := by
 rcases h with ⟨_, h0, _⟩ | ⟨_, _, h0, _⟩ | ⟨hv, ho, _, hN⟩
 ·cases h0
 ·cases h0
 ·exact ⟨hv, ho, hN⟩

theorem needs_asc (T : List FS) (high : Bool) : (needsAll T high).Pairwise (fun a b => a.1 ≤ b.1) := by
 unfold needsAll
 rw [List.pairwise_flatMap]
 refine ⟨fun i hi => ?_, ?_⟩
 ·have hi' := List.mem_range.1 hi
  rw [List.pairwise_iff_getElem]
  intro a b ha hb hab
  have h1 := needsAt_fst hi' _ (List.getElem_mem ha)
  have h2 := needsAt_fst hi' _ (List.getElem_mem hb)
  omega
 ·have key : ∀ n, n ≤ T.length → (List.range n).Pairwise (fun a b => ∀ x ∈ needsAt T high a, ∀ y ∈ needsAt T high b, x.1 ≤ y.1) := by
   intro n hn
   rw [List.pairwise_iff_getElem]
   intro a b ha hb hab x hx y hy
   have ha' : a < n := by simpa using ha
   have hb' : b < n := by simpa using hb
   rw [List.getElem_range] at hx hy
   have h1 := needsAt_fst (by omega) x hx
   have h2 := needsAt_fst (by omega) y hy
   omega
  exact key _ (Nat.le_refl _)
theorem needs_le {T : List FS} {high : Bool} {j k : Nat} (hjk : j ≤ k) (hk : k < (needsAll T high).length) : ((needsAll T high).getD j (0, 0, 0, 0)).1 ≤ ((needsAll T high).getD k (0, 0, 0, 0)).1 := by
 by_cases e : j = k
 ·subst e; exact Int.le_refl _
 ·have := List.pairwise_iff_getElem.1 (needs_asc T high) j k (by omega) hk (by omega)
  simpa [List.getD, show j < (needsAll T high).length by omega, hk] using this

theorem win_at {T : List FS} {high : Bool} (hv : ValidT T) (ho : ¬ Ovf T high) {i : Nat} (hi : i < (needsAll T high).length) (hp : 0 ≤ (fnAt T ((needsAll T high).getD i (0, 0, 0, 0)).1.toNat).parent) :
  ∃ w, atN (needsAll T high) (fnAt T ((needsAll T high).getD i (0, 0, 0, 0)).1.toNat).parent (-1 - ((needsAll T high).getD i (0, 0, 0, 0)).2.2.1) = some w ∧ w < i ∧ w < (needsAll T high).length := by
 have hm := getD_mem' (l := needsAll T high) (k := i) (0, 0, 0, 0) hi
 have hok := needs_ok hv ho _ hm
 have hle := fun w (h : i ≤ w) (hw : w < (needsAll T high).length) => needs_le (T := T) (high := high) h hw
 generalize (needsAll T high).getD i (0, 0, 0, 0) = x at *
 have hpa := (hv.2 x.1.toNat (by have := hok.fn; omega)).pa
 have hbr := (hv.2 x.1.toNat (by have := hok.fn; omega)).br hp
 generalize hq : (fnAt T x.1.toNat).parent = p at *
 obtain ⟨pn, rfl⟩ : ∃ pn : Nat, p = pn := ⟨p.toNat, by omega⟩
 obtain ⟨cn, hcn⟩ : ∃ cn : Nat, x.2.2.1 = cn := ⟨x.2.2.1.toNat, by have := hok.cl; omega⟩
 have hfn := hok.fn
 have hcl := hok.cl
 have hne : belF T (needsAll T high) pn cn ≠ [] := by
  have : x ∈ belF T (needsAll T high) pn cn := by
   unfold belF
   rw [if_pos ⟨⟨by omega, by omega⟩, fun _ => hbr⟩]
   refine List.mem_filter.2 ⟨hm, ?_⟩
   unfold belQ
   rw [decide_eq_true_eq]
   exact ⟨hcn, hok.fn, hq⟩
  intro e
  rw [e] at this
  cases this
 obtain ⟨w, h1, h2, h3, _⟩ := win_exists hv ho (i := pn) (c := cn) (by omega) (by omega) hne
 rw [hcn]
 refine ⟨w, h1, ?_, h2⟩
 apply Classical.byContradiction
 intro hn
 have := hle w (by omega) h2
 omega

theorem chk_nd {T : List FS} {high : Bool} {A : List Asg} (h : NeedsIs T high 0 (A.map Prod.fst)) : ∀ i, i < A.length → NdOk T (A.getD i zA).1 ∧ (0 ≤ parA T (A.getD i zA) → ∃ w, atN (A.map Prod.fst) (parA T (A.getD i zA)) (-1 - clA (A.getD i zA)) = some w ∧ w < i ∧ w < A.length) := by
 intro i hi
 obtain ⟨hv, ho, hN⟩ := h.all
 have hl : (needsAll T high).length = A.length := by rw [← hN]; simp
 have e := map_getD1 hi
 rw [hN] at e
 refine ⟨by rw [← e]; exact needs_ok hv ho _ (getD_mem' _ (by omega)), fun hp => ?_⟩
 rw [hN]
 have hw := win_at hv ho (i := i) (by omega) (by rw [e]; exact hp)
 rw [e] at hw
 obtain ⟨w, h1, h2, h3⟩ := hw
 exact ⟨w, h1, h2, by omega⟩

def Apart (N : List Need) (B : List Int) (j k : Nat) : Prop := B.getD j 0 + 2 ^ szN N j ≤ B.getD k 0 ∨ B.getD k 0 + 2 ^ szN N k ≤ B.getD j 0
def Fits (T : List FS) (N : List Need) (B : List Int) (p c : Int) (free : List Rg) : Prop :=
 ∀ k, k < N.length → belQ T p c (N.getD k (0, 0, 0, 0)) = true → (∃ y, B.getD k 0 = y * 2 ^ szN N k) ∧ InSp free (B.getD k 0) (2 ^ szN N k) ∧ ∀ j, j < N.length → belQ T p c (N.getD j (0, 0, 0, 0)) = true → j ≠ k → Apart N B j k

theorem Fits.congr {T : List FS} {N : List Need} {B B' : List Int} {p c : Int} {free : List Rg} (h : Fits T N B p c free) (he : ∀ k, k < N.length → belQ T p c (N.getD k (0, 0, 0, 0)) = true → B'.getD k 0 = B.getD k 0) : Fits T N B' p c free := fun k hk hq => by
 obtain ⟨h1, h2, h3⟩ := h k hk hq
 rw [he k hk hq]
 refine ⟨h1, h2, fun j hj hqj hne => ?_⟩
 have := h3 j hj hqj hne
 unfold Apart at this ⊢
 rw [he k hk hq, he j hj hqj]
 exact this

theorem plS_same {T : List FS} {high : Bool} {B : List Int} {p c : Int} {free : List Rg} (hbo : BelOk T p) {k : Nat} (hq : ¬ belQ T p c ((needsAll T high).getD k (0, 0, 0, 0)) = true) : (plS T (needsAll T high) B p c free).2.2.getD k 0 = B.getD k 0 := by
 rw [plS_idx hbo]
 refine setI_out _ _ (fun x hx e => hq ?_)
 have h1 := (List.of_mem_zip (show (x.1, x.2) ∈ _ from hx)).1
 rw [e] at h1
 exact (idxF_mem.1 h1).2

theorem plS_fits {T : List FS} {high : Bool} {B : List Int} {p c : Int} {free : List Rg} (hbo : BelOk T p) (hl : B.length = (needsAll T high).length) (h : (plS T (needsAll T high) B p c free).1 = 0) (ha : Asc free) :
  Fits T (needsAll T high) (plS T (needsAll T high) B p c free).2.2 p c free := by
 have h0 : (placeV free (sizesOf (belF T (needsAll T high) p c))).1 = 0 := h
 rw [plS_idx hbo]
 obtain ⟨hv, _, hbl, _, hat, hne⟩ := placeV_ok (free := free) (S := sizesOf (belF T (needsAll T high) p c)) (bs := (placeV free (sizesOf (belF T (needsAll T high) p c))).2.1) (c := (placeV free (sizesOf (belF T (needsAll T high) p c))).2.2) (by rw [← h0])
 have hsz := bel_sizes (N := needsAll T high) (c := c) hbo
 generalize needsAll T high = N at *
 rw [hsz] at hat hbl hne ⊢
 rw [List.length_map] at hbl hat hne
 generalize (placeV free ((idxF T N p c N.length).map (fun i => (N.getD i (0, 0, 0, 0)).2.2.2))).2.1 = bs at *
 have hnd := idxF_nodup T N p c N.length
 have hmem : ∀ i, i ∈ idxF T N p c N.length ↔ i < N.length ∧ belQ T p c (N.getD i (0, 0, 0, 0)) = true := fun i => idxF_mem
 generalize idxF T N p c N.length = I at *
 have hse : ∀ j (hj : j < I.length), szOf (I.map (fun i => (N.getD i (0, 0, 0, 0)).2.2.2)) j = szN N I[j] := fun j hj => by
  unfold szOf szN
  simp [List.getD, hj]
 have hset : ∀ j (hj : j < I.length), (setI B (I.zip bs)).getD I[j] 0 = bs.getD j 0 := fun j hj => setI_at I bs B j hnd (fun i hi => by have := (hmem i).1 hi; omega) (by omega) hj
 intro k hk hq
 obtain ⟨j, hj, rfl⟩ := List.getElem_of_mem ((hmem k).2 ⟨hk, hq⟩)
 obtain ⟨⟨y, hy⟩, hcov⟩ := hat j hj
 rw [hse j hj] at hy hcov
 rw [hset j hj]
 have hp := pow_pos2 (szN N I[j])
 refine ⟨⟨y, hy⟩, ?_, fun k' hk' hq' hkk => ?_⟩
 ·obtain ⟨r, hr, h1, h2⟩ := cov_block ha (a := bs.getD j 0) (b := bs.getD j 0 + 2 ^ szN N I[j]) (by omega) hcov
  exact ⟨r, hr, h1, h2⟩
 ·obtain ⟨j', hj', rfl⟩ := List.getElem_of_mem ((hmem k').2 ⟨hk', hq'⟩)
  have hjj : j' ≠ j := fun e => hkk (by subst e; rfl)
  have := hne j' hj' j hj hjj
  unfold PlNe at this
  rw [hse j hj, hse j' hj'] at this
  unfold Apart
  rw [hset j hj, hset j' hj']
  exact this

def frF (N : List Need) (h : Host) (B : List Int) (p c : Int) : List Rg := if 0 ≤ p then (match atN N p (-1 - c) with | some w => [winF N B w] | none => []) else spaceF h c

theorem frF_congr {N : List Need} {h : Host} {B B' : List Int} {p c : Int} (he : ∀ w, atN N p (-1 - c) = some w → B'.getD w 0 = B.getD w 0) : frF N h B' p c = frF N h B p c := by
 unfold frF
 split
 ·cases hw : atN N p (-1 - c) with
  | none => rfl
  | some w => dsimp only; unfold winF; rw [he w hw]
 ·rfl
theorem frF_asc {N : List Need} {h : Host} (vh : ValidH h) (B : List Int) (p c : Int) : Asc (frF N h B p c) := by
 unfold frF
 split
 ·split
  ·exact ⟨by unfold winF; exact pow_ge1 _, fun q hq => (by cases hq), trivial⟩
  ·trivial
 ·exact (spaceF_valid vh c).2

structure AllIn (T : List FS) (N : List Need) (h : Host) (B : List Int) (i c : Nat) : Prop where
 len : B.length = N.length
 gd : ∀ p d : Int, -1 ≤ p → 0 ≤ d → d < 3 → (p < i ∨ p = i ∧ d < c) → GoodP T N B p d ∧ Fits T N B p d (frF N h B p d)

theorem fits_no {T : List FS} {N : List Need} {B : List Int} {free : List Rg} (hv : ValidT T) (hN : ∀ x ∈ N, 0 ≤ x.1 ∧ x.1 < T.length) {i : Nat} (hb : (fnAt T i).bridge = false) (c : Int) : Fits T N B i c free := fun k hk hq => by
 exfalso
 have hx := hN _ (getD_mem' (l := N) (k := k) (0, 0, 0, 0) hk)
 unfold belQ at hq
 rw [decide_eq_true_eq] at hq
 have hbr := (hv.2 (N.getD k (0, 0, 0, 0)).1.toNat (by omega)).br (by omega)
 rw [hq.2.2, Int.toNat_natCast, hb] at hbr
 cases hbr

theorem allIn_step {T : List FS} {h : Host} {B : List Int} {i c : Nat} (hv : ValidT T) (vh : ValidH h) (ho : ¬ Ovf T (hiF h)) (hi : i < T.length) (hc : c < 3) (a : AllIn T (needsAll T (hiF h)) h B i c) : AllIn T (needsAll T (hiF h)) h (brStep T (needsAll T (hiF h)) B i c) i (c + 1) := by
 have hok := needs_ok hv ho
 have hN : ∀ x ∈ needsAll T (hiF h), 0 ≤ x.1 ∧ x.1 < T.length := fun x hx => (hok x hx).fn
 cases hb : (fnAt T i).bridge with
 | false =>
  rw [brStep_no hv hi hb]
  refine ⟨a.len, fun p d p1 d0 d3 hpd => ?_⟩
  by_cases e : p = i
  ·subst e
   exact ⟨good_no hv hN hb d, fits_no hv hN hb d⟩
  ·exact a.gd p d p1 d0 d3 (.inl (by omega))
 | true =>
  have hbo : BelOk T (i : Int) := ⟨by omega, fun _ => by rw [Int.toNat_natCast]; exact hb⟩
  obtain ⟨q1, q2, q3⟩ := br_ok hv ho a.len hi hb hc (fun p d p1 p2 d0 d3 => (a.gd p d p1 d0 d3 (.inl p2)).1) (frF (needsAll T (hiF h)) h B i c) (by unfold frF; rw [if_pos (by omega)] <;> rfl)
  obtain ⟨g1, g2⟩ := plS_good (free := frF (needsAll T (hiF h)) h B i c) hbo a.len q1
  have hf := plS_fits hbo a.len q1 (frF_asc vh B i c)
  have hs := fun k => plS_same (T := T) (high := hiF h) (B := B) (p := i) (c := c) (free := frF (needsAll T (hiF h)) h B i c) hbo (k := k)
  have hlen := plS_ok T (needsAll T (hiF h)) B i c (frF (needsAll T (hiF h)) h B i c)
  have hll : (plS T (needsAll T (hiF h)) B i c (frF (needsAll T (hiF h)) h B i c)).2.2.length = B.length := by
   unfold plS
   exact setB_len _ _ _
  rw [q2] at g1 g2 hf hs hll
  generalize brStep T (needsAll T (hiF h)) B i c = B' at *
  have hwin : ∀ p d : Int, 0 ≤ d → d < 3 → p ≤ i → ∀ w, atN (needsAll T (hiF h)) p (-1 - d) = some w → B'.getD w 0 = B.getD w 0 := fun p d d0 d3 hp w hw => by
   refine hs w (fun hq => ?_)
   obtain ⟨hwl, hw1, _⟩ := atN_spec hw
   have hx := hN _ (getD_mem' (l := needsAll T (hiF h)) (k := w) (0, 0, 0, 0) hwl)
   unfold belQ at hq
   rw [decide_eq_true_eq] at hq
   have hpa := (hv.2 ((needsAll T (hiF h)).getD w (0, 0, 0, 0)).1.toNat (by omega)).pa
   omega
  refine ⟨by rw [hll]; exact a.len, fun p d p1 d0 d3 hpd => ?_⟩
  by_cases e : p = i ∧ d = c
  ·obtain ⟨rfl, rfl⟩ := e
   rw [frF_congr (fun w hw => hwin i c d0 d3 (by omega) w hw)]
   exact ⟨g1, hf⟩
  ·have hpd' : p < i ∨ p = i ∧ d < c := by omega
   obtain ⟨k1, k2⟩ := a.gd p d p1 d0 d3 hpd'
   rw [frF_congr (fun w hw => hwin p d d0 d3 (by omega) w hw)]
   refine ⟨g2 p d (by omega) k1, k2.congr (fun k hk hq => hs k (fun hq2 => ?_))⟩
   have := belQ_inj hq hq2
   exact e this

theorem root_fits {T : List FS} {h : Host} (vh : ValidH h) : ∀ k : Nat, k ≤ 3 → (rootR T (needsAll T (hiF h)) h k).1 = 0 → ∀ c : Int, 0 ≤ c → c < k → Fits T (needsAll T (hiF h)) (rootR T (needsAll T (hiF h)) h k).2.2 (-1) c (spaceF h c)
 | 0, _, _, c, h0, h1 => by omega
 | k + 1, hk, hr, c, h0, h1 => by
  have hbo : BelOk T (-1) := ⟨by omega, fun h => by omega⟩
  have hprev : (rootR T (needsAll T (hiF h)) h k).1 = 0 := by
   apply Classical.byContradiction
   intro hn
   have : rootR T (needsAll T (hiF h)) h (k + 1) = rootR T (needsAll T (hiF h)) h k := rootR_stick hn 1
   rw [this] at hr
   exact hn hr
  have hstep : rootR T (needsAll T (hiF h)) h (k + 1) = plS T (needsAll T (hiF h)) (rootR T (needsAll T (hiF h)) h k).2.2 (-1) k (spaceF h k) := by
   show (if (rootR T (needsAll T (hiF h)) h k).1 ≠ 0 then rootR T (needsAll T (hiF h)) h k else _) = _
   rw [if_neg (fun hh => hh hprev)]
  rw [hstep] at hr ⊢
  have hl := (rootR_ok T (needsAll T (hiF h)) h k).2
  by_cases e : c = k
  ·subst e
   exact plS_fits hbo hl hr (spaceF_valid vh _).2
  ·have ih := root_fits vh k (by omega) hprev c h0 (by omega)
   refine ih.congr (fun j hj hq => plS_same hbo (fun hq2 => ?_))
   have := belQ_inj hq hq2
   omega

theorem allIn_zero {T : List FS} {h : Host} (vh : ValidH h) (hr : (rootR T (needsAll T (hiF h)) h 3).1 = 0) : AllIn T (needsAll T (hiF h)) h (rootR T (needsAll T (hiF h)) h 3).2.2 0 0 := by
 refine ⟨(rootR_ok T (needsAll T (hiF h)) h 3).2, fun p d p1 d0 d3 hpd => ?_⟩
 obtain rfl : p = -1 := by omega
 refine ⟨rootR_good 3 (by omega) hr d d0 d3, ?_⟩
 have : frF (needsAll T (hiF h)) h (rootR T (needsAll T (hiF h)) h 3).2.2 (-1) d = spaceF h d := by unfold frF; rw [if_neg (by omega)]
 rw [this]
 exact root_fits vh 3 (by omega) hr d d0 (by omega)

theorem allIn_all {T : List FS} {h : Host} (hv : ValidT T) (vh : ValidH h) (ho : ¬ Ovf T (hiF h)) (hr : (rootR T (needsAll T (hiF h)) h 3).1 = 0) : ∀ i c : Nat, i ≤ T.length → c ≤ 3 → (i < T.length ∨ c = 0) → AllIn T (needsAll T (hiF h)) h (brR T (needsAll T (hiF h)) (rootR T (needsAll T (hiF h)) h 3).2.2 (3 * i + c)) i c := by
 have step : ∀ i : Nat, (i ≤ T.length → AllIn T (needsAll T (hiF h)) h (brR T (needsAll T (hiF h)) (rootR T (needsAll T (hiF h)) h 3).2.2 (3 * i + 0)) i 0) → ∀ c : Nat, c ≤ 3 → i < T.length → AllIn T (needsAll T (hiF h)) h (brR T (needsAll T (hiF h)) (rootR T (needsAll T (hiF h)) h 3).2.2 (3 * i + c)) i c := by
  intro i h0 c
  induction c with
  | zero => intro _ hi; exact h0 (by omega)
  | succ c ih =>
   intro hc hi
   rw [brR_succ T _ _ (show c < 3 by omega)]
   exact allIn_step hv vh ho hi (by omega) (ih (by omega) hi)
 have base : ∀ i : Nat, i ≤ T.length → AllIn T (needsAll T (hiF h)) h (brR T (needsAll T (hiF h)) (rootR T (needsAll T (hiF h)) h 3).2.2 (3 * i + 0)) i 0 := by
  intro i
  induction i with
  | zero => intro _; exact allIn_zero vh hr
  | succ i ih =>
   intro hi
   have := step i ih 3 (by omega) (by omega)
   rw [show 3 * (i + 1) + 0 = 3 * i + 3 by omega]
   exact ⟨this.len, fun p d p1 d0 d3 hpd => this.gd p d p1 d0 d3 (by omega)⟩
 intro i c hi hc hic
 rcases hic with h1 | rfl
 ·exact step i (base i) c hc h1
 ·exact base i hi

theorem zip_snd {N : List Need} {B : List Int} (h : B.length = N.length) : (N.zip B).map Prod.snd = B := by
 apply List.map_snd_zip
 omega

theorem chk_of {T : List FS} {h : Host} {B : List Int} (hv : ValidT T) (vh : ValidH h) (ho : ¬ Ovf T (hiF h)) (a : AllIn T (needsAll T (hiF h)) h B T.length 0) : ChkIs T h ((needsAll T (hiF h)).zip B) := by
 have hf : ((needsAll T (hiF h)).zip B).map Prod.fst = needsAll T (hiF h) := zip_fst a.len
 have hs : ((needsAll T (hiF h)).zip B).map Prod.snd = B := zip_snd a.len
 have hl : ((needsAll T (hiF h)).zip B).length = (needsAll T (hiF h)).length := zip_len a.len
 have hok := needs_ok hv ho
 refine ⟨hv, vh, by rw [hf]; exact .inr (.inr ⟨hv, ho, rfl, rfl⟩), fun i hi => ?_⟩
 have hget : ∀ j, j < (needsAll T (hiF h)).length → ((needsAll T (hiF h)).zip B).getD j zA = ((needsAll T (hiF h)).getD j (0, 0, 0, 0), B.getD j 0) := fun j hj => by
  unfold List.getD
  rw [zip_getD a.len hj]
  simp [List.getD]
 rw [hl] at hi
 have hx := hok _ (getD_mem' (l := needsAll T (hiF h)) (k := i) (0, 0, 0, 0) hi)
 have hpa := (hv.2 ((needsAll T (hiF h)).getD i (0, 0, 0, 0)).1.toNat (by have := hx.fn; omega)).pa
 have hgd := (a.gd (fnAt T ((needsAll T (hiF h)).getD i (0, 0, 0, 0)).1.toNat).parent ((needsAll T (hiF h)).getD i (0, 0, 0, 0)).2.2.1 hpa.1 hx.cl.1 hx.cl.2 (.inl (by have := hx.fn; omega))).2
 have hbq : belQ T (fnAt T ((needsAll T (hiF h)).getD i (0, 0, 0, 0)).1.toNat).parent ((needsAll T (hiF h)).getD i (0, 0, 0, 0)).2.2.1 ((needsAll T (hiF h)).getD i (0, 0, 0, 0)) = true := by
  unfold belQ
  rw [decide_eq_true_eq]
  exact ⟨rfl, hx.fn, rfl⟩
 obtain ⟨⟨y, hy⟩, h2, h3⟩ := hgd i hi hbq
 have hsp : spaceAt T h ((needsAll T (hiF h)).zip B) ((needsAll T (hiF h)).getD i (0, 0, 0, 0), B.getD i 0) = frF (needsAll T (hiF h)) h B (fnAt T ((needsAll T (hiF h)).getD i (0, 0, 0, 0)).1.toNat).parent ((needsAll T (hiF h)).getD i (0, 0, 0, 0)).2.2.1 := by
  unfold spaceAt frF
  rw [hf, hs]
  rfl
 refine ⟨?_, ?_, fun k hk hpk hck => ?_⟩
 ·rw [hget i hi]
  show B.getD i 0 % 2 ^ szN (needsAll T (hiF h)) i = 0
  rw [hy]
  exact Int.mul_emod_left _ _
 ·rw [hget i hi, hsp]
  exact h2
 ·have hkl : k < (needsAll T (hiF h)).length := by omega
  rw [hget i hi, hget k hkl] at hpk hck ⊢
  have hxk := hok _ (getD_mem' (l := needsAll T (hiF h)) (k := k) (0, 0, 0, 0) hkl)
  have hbk : belQ T (fnAt T ((needsAll T (hiF h)).getD i (0, 0, 0, 0)).1.toNat).parent ((needsAll T (hiF h)).getD i (0, 0, 0, 0)).2.2.1 ((needsAll T (hiF h)).getD k (0, 0, 0, 0)) = true := by
   unfold belQ
   rw [decide_eq_true_eq]
   exact ⟨hck, hxk.fn, hpk⟩
  have := h3 k hkl hbk (by omega)
  unfold Apart szN at this
  have p1 := pow_pos2 ((needsAll T (hiF h)).getD i (0, 0, 0, 0)).2.2.2.toNat
  have p2 := pow_pos2 ((needsAll T (hiF h)).getD k (0, 0, 0, 0)).2.2.2.toNat
  unfold OvA
  dsimp only
  split <;> omega

theorem AssignIs.chk {T : List FS} {h : Host} {A : List Asg} {c : Cert} (ha : AssignIs T h 0 A c) : ChkIs T h A := by
 rcases ha with ⟨_, h0, _⟩ | ⟨⟨hv, vh⟩, e0, N, hN, ⟨h1, h2, _⟩ | ⟨_, h1, h2, _⟩ | ⟨rfl, hr, _, rfl, _⟩⟩
 ·cases h0
 ·exact absurd h2.symm h1
 ·exact absurd h2.symm h1
 ·obtain ⟨_, ho, rfl⟩ := hN.all
  exact chk_of hv vh ho (allIn_all hv vh ho hr T.length 0 (Nat.le_refl _) (by omega) (.inr rfl))

/-! ### the bases -/
theorem free_in {l f : List Rg} {a b : Int} (hl : ValidR l) (hf : ValidR f) (hn : l.length + f.length ≤ 1024) (hw : ∀ r ∈ l, a ≤ r.1 ∧ r.1 + r.2 ≤ b) : ∀ r ∈ freeF l f, a ≤ r.1 ∧ r.1 + r.2 ≤ b := by
 intro r hr
 have hr1 := ((freeF_valid hl hf hn).1.2 r hr).1
 obtain ⟨_, hcov⟩ := freeF_spec (fun x hx => (hl.2 x hx).1) (fun x hx => (hf.2 x hx).1)
 obtain ⟨⟨q, hq, q1, q2⟩, _⟩ := (hcov r.1).1 ⟨r, hr, by omega, by omega⟩
 obtain ⟨⟨p, hp, p1, p2⟩, _⟩ := (hcov (r.1 + r.2 - 1)).1 ⟨r, hr, by omega, by omega⟩
 have h1 := hw q hq
 have h2 := hw p hp
 omega
def limC (c : Int) : Int := if c = 0 then 65536 else if c = 1 then 4294967296 else 4503599627370496
theorem space_lim {h : Host} (vh : ValidH h) (c : Int) : ∀ r ∈ spaceF h c, 0 ≤ r.1 ∧ r.1 + r.2 ≤ limC c := by
 have a1 := vh.io; have a2 := vh.fio; have a3 := vh.mem; have a4 := vh.fix; have a5 := vh.high
 unfold WithinR at *
 unfold spaceF limC
 split
 ·exact free_in a1.2.1 a2.2.1 (by omega) a1.2.2
 ·split
  ·exact free_in a3.2.1 a4.2.1 (by omega) a3.2.2
  ·exact fun r hr => by
    have := free_in a5.2.1 a4.2.1 (by omega) a5.2.2 r hr
    omega
theorem bs_at {T : List FS} {h : Host} {A : List Asg} (ck : ChkIs T h A) : ∀ i, i < A.length → 0 ≤ (A.getD i zA).2 ∧ (A.getD i zA).2 + 2 ^ szA (A.getD i zA) ≤ limC (clA (A.getD i zA)) := by
 obtain ⟨hv, ho, hN⟩ := ck.nd.all
 intro i
 induction i using Nat.strongRecOn with
 | _ i ih =>
  intro hi
  obtain ⟨hnd, hw⟩ := chk_nd ck.nd i hi
  obtain ⟨r, hr, h1, h2⟩ := (ck.at' i hi).sp
  unfold spaceAt at hr
  split at hr
  ·rename_i hp
   obtain ⟨w, e, h3, h4⟩ := hw hp
   have e' := e
   rw [e] at hr
   simp at hr
   have := ih w h3 h4
   subst hr
   unfold winF at h1 h2
   rw [map_getD1 h4, map_getD2 h4] at h2
   rw [map_getD2 h4] at h1
   dsimp only at h1 h2
   obtain ⟨_, k1, k2⟩ := atN_spec e'
   rw [map_getD1 h4] at k1 k2
   have hm : (A.getD w zA).1 ∈ needsAll T (hiF h) := by rw [← hN]; exact List.mem_map.2 ⟨_, getD_mem' (l := A) (k := w) zA h4, rfl⟩
   have hcl := hnd.cl
   have hok := needs_ok hv ho _ hm
   have hfn := hok.fn
   obtain ⟨_, hin⟩ := need_win (i := (A.getD w zA).1.1.toNat) (by omega) hm (by omega) (by unfold clA at k2; omega)
   obtain ⟨c', _, ee, _, _⟩ := winN_of T (hiF h) _ _ 3 _ hin
   have f1 : (A.getD w zA).1.2.1 = -1 - (c' : Int) := by rw [ee]
   have f2 : (A.getD w zA).1.2.2.1 = (c' : Int) := by rw [ee]
   have hcc : clA (A.getD w zA) = clA (A.getD i zA) := by unfold clA at *; omega
   have hlim : limC (clA (A.getD w zA)) = limC (clA (A.getD i zA)) := congrArg limC hcc
   unfold szA at *
   omega
  ·have := space_lim ck.vh (clA (A.getD i zA)) r hr
   omega
theorem AssignIs.bs {T : List FS} {h : Host} {A : List Asg} {c : Cert} (ha : AssignIs T h 0 A c) : BsOk A := by
 have ck := ha.chk
 have key : ∀ x ∈ A, (0 ≤ x.2 ∧ x.2 + 2 ^ szA x ≤ limC (clA x)) ∧ x.2 % 2 ^ szA x = 0 := fun x hx => by
  obtain ⟨j, hj, hje⟩ := List.getElem_of_mem hx
  have hg : A.getD j zA = x := by simp [List.getD, hj, hje]
  have h1 := bs_at ck j hj
  have h2 := (ck.at' j hj).al
  rw [hg] at h1 h2
  exact ⟨h1, h2⟩
 refine ⟨fun x hx => (key x hx).1.1, fun x hx => ?_, fun x hx hc => ?_, fun x hx hc => ?_, fun x hx => ?_⟩
 ·obtain ⟨⟨h0, _⟩, h1⟩ := key x hx
  have h2 := Int.dvd_of_emod_eq_zero h1
  have h3 : ((2 ^ szA x : Nat) : Int) ∣ ((x.2.toNat : Nat) : Int) := by
   rw [show ((x.2.toNat : Nat) : Int) = x.2 by omega]
   simpa using h2
  exact Int.natCast_dvd_natCast.1 h3
 ·have := (key x hx).1.2
  unfold limC clA at this
  rw [if_pos hc] at this
  exact this
 ·have := (key x hx).1.2
  unfold limC clA at this
  rw [if_neg (by omega), if_pos hc] at this
  exact this
 ·have := (key x hx).1.2
  unfold limC at this
  split at this
  ·omega
  ·split at this <;> omega

theorem devsOk : DevsOk := fun T g A c ha i hi => by
 have ck := ha.chk
 obtain ⟨hv, _, hN⟩ := ck.nd.all
 exact dev_ok hv hi hN ha.bs

end Go.Proofs.YtigcheamheiopaaGreat
end
