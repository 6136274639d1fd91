/-
  PciconfValidates; PciconfReadOnly.
-/
import Derived.Test.YtankllejpldleaaD4
namespace Go.Proofs.Ytankllejpldleaa
open Go.Eng

theorem law_validates (H : Heap) (f : Fn) (s : Sl) (hB : Bars H s f.bars) (hs : f.bars.length ≤ 9223372036854775807) :
    CallsH Try.prog n_law18_PciconfValidates #[fnV f s] H (BoolP true H) := by
  refine F_law18_PciconfValidates_ok _ _ _ _ _ _ _ _ _ _ _ ?_
  unfold F_law18_PciconfValidates
  refine push_mk (vs := fnL f s) fun H1 e1 z1 b1 => ?_
  refine loop1 2 (fun k H' => ∃ g sl, Blk H' H.size t_api_Function (fnL g sl) ∧ Bars H' sl g.bars ∧ g.bars.length ≤ 9223372036854775807 ∧ (∀ a, sl.p = some a → g.bars ≠ [] → a.block ≠ H.size) ∧ Ext H H') ⟨f, s, b1, hB.ext e1, hs, fun a ha hne => ?_, e1⟩ ?_
  · cases hl : f.bars with
    | nil => exact absurd hl hne
    | cons x t =>
      obtain ⟨a', hp, r0, _⟩ := Bars.atN hB (k := 0) (by rw [hl]; simp)
      rw [ha] at hp; cases hp
      have := rd_lt r0
      simp [Addr.add] at this
      omega
  rintro k H2 hk ⟨g, sl, b2, hB2, hs2, hne2, e2⟩
  unfold F_law18_PciconfValidates_r2
  obtain ⟨p0, p1, p2, p3, p4, p5, p6, p7, p8, p9, p10⟩ := Blk.fn b2
  refine iteB_dec (fun c => ?_) (fun c => ?_)
  · refine ⟨_, p0, _, p1, _, p2, _, p3, _, p4, _, p5, _, p6, _, p7, _, p8, _, p9, _, p10, (New_spec g sl H2 hB2).mono ?_⟩
    have key : ∀ H3 (x11 : Option Addr) (x12 : Int), Ext H2 H3 → ((x12 = 0 ∧ x11.isNone = false ∧ ValidF g) ∨ (x12 = 1 ∧ x11.isNone = true ∧ ¬ ValidF g)) →
        ∃ y : Option Addr, ∃ z : Int, Value.tuple #[.pointer x11, .int .i64 x12] = .tuple #[.pointer y, .int .i64 z] ∧ y = x11 ∧ z = x12 := fun _ x11 x12 _ _ => ⟨x11, x12, rfl, rfl, rfl⟩
    clear key
    intro v H3 hv3
    have hv3' : ∃ (x11 : Option Addr) (x12 : Int), v = .tuple #[.pointer x11, .int .i64 x12] ∧ Ext H2 H3 ∧ ((x12 = 0 ∧ x11.isNone = false ∧ ValidF g) ∨ (x12 = 1 ∧ x11.isNone = true ∧ ¬ ValidF g)) := by
      rcases hv3 with ⟨b, g', hv, hb, hg, hgb, d, hx, he⟩ | ⟨hv, he⟩
      · exact ⟨_, _, rfl, he, .inl ⟨rfl, rfl, hv⟩⟩
      · exact ⟨_, _, rfl, he, .inr ⟨rfl, rfl, hv⟩⟩
    obtain ⟨x11, x12, rfl, e3, hcase⟩ := hv3'
    clear hv3
    have b3 := b2.ext e3
    obtain ⟨p0, p1, p2, p3, p4, p5, p6, p7, p8, p9, p10⟩ := Blk.fn b3
    refine ⟨x11, x12, rfl, fun H' => Ext H2 H', ⟨_, p0, _, p1, _, p2, _, p3, _, p4, _, p5, _, p6, _, p7, _, p8, _, p9, _, p10, _, p0, _, p1, _, p2, _, p3, _, p4, _, p5, _, p6, _, p7, _, p8, _, p9, _, p10, (Valid_spec g sl H3 (hB2.ext e3)).mono ?_⟩, ?_⟩
    · rintro v H4 ⟨rfl, e4⟩
      refine ⟨_, rfl, e4.keeps, (rValid_spec g sl H4 (hB2.ext (e3.trans e4))).mono ?_⟩
      rintro v H5 ⟨rfl, e5⟩
      have x5 := (e3.trans e4).trans e5
      obtain ⟨p0, p1, p2, p3, p4, p5, p6, p7, p8, p9, p10⟩ := Blk.fn (b2.ext x5)
      refine ⟨_, rfl, iteB_not (fun c1 => by simp at c1) (fun _ => ⟨_, p0, _, p1, _, p2, _, p3, _, p4, _, p5, _, p6, _, p7, _, p8, _, p9, _, p10, (rValid_spec g sl H5 (hB2.ext x5)).mono ?_⟩)⟩
      rintro v H6 ⟨rfl, e6⟩
      have x6 := x5.trans e6
      refine ⟨_, rfl, ?_⟩
      rcases hcase with ⟨rfl, h11, hg⟩ | ⟨rfl, h11, hg⟩
      · exact iteB_neg (by simp [hg]) (iteB_neg (by rw [h11]; rfl) (iteB_neg rfl x6))
      · exact iteB_neg (by simp [hg]) (iteB_neg (by rw [h11]; rfl) (iteB_pos rfl (iteB_neg rfl x6)))
    · intro H7 e7
      unfold F_law18_PciconfValidates_k1
      have b7 := b2.ext e7
      obtain ⟨p0, p1, p2, p3, p4, p5, p6, p7, p8, p9, p10⟩ := Blk.fn b7
      refine ⟨_, p0, _, p1, _, p2, _, p3, _, p4, _, p5, _, p6, _, p7, _, p8, _, p9, _, p10, (some_spec g sl H7 (hB2.ext e7) hs2).mono ?_⟩
      rintro v H8 ⟨g', sl', rfl, hB8, e8, hn8, hs8⟩
      have b8 := b7.ext e8
      refine ⟨_, _, _, _, _, _, _, _, _, _, sl', rfl, b8.ok0 (by simp), letH_mk ?_⟩
      intro H9 h9
      have b9 : Blk H9 H.size t_api_Function (fnL g' sl') := by rw [h9]; exact b8.wr
      have m9 : Mods [H.size] H8 H9 := by rw [h9]; exact Mods.wrs (by simp)
      clear h9
      have hx : Ext H H9 := Mods.ext ((e2.trans e7).trans e8) m9 (by simp)
      have nb : ∀ a, sl'.p = some a → g'.bars ≠ [] → a.block ≠ H.size := by
        intro a ha hne
        rcases hn8 with rfl | hn
        · intro hc
          by_cases hg : g.bars = []
          · have h1 := hB2.len
            have h2 := hB8.len
            rw [hg] at h1
            rw [h1] at h2
            exact hne (List.eq_nil_of_length_eq_zero h2.symm)
          · exact hne2 a ha hg hc
        · have := hn a ha
          have := b7.lt
          omega
      have hB9 : Bars H9 sl' g'.bars := by
        by_cases hne : g'.bars = []
        · refine ⟨hB8.len, .inl hne⟩
        · exact hB8.mods m9 (fun a ha => by have := nb a ha hne; simpa using this)
      exact letV_mk _ rfl (next1 (by omega) (by omega) ⟨g', sl', b9, hB9, hs8, nb, hx⟩)
  · refine (awake_spec H2).mono ?_
    rintro v H10 ⟨rfl, e10⟩
    exact ⟨_, rfl, rfl, e2.trans e10⟩

/-! ### what no access changes -/

theorem setB_out {ys : Nat → Int} {o w i : Nat} {v : Int} (h : i < o ∨ o + w ≤ i) : setB ys o w v i = ys i := by
  unfold setB; rw [if_neg (by omega)]
theorem sdef_out {s : St} {o w i : Nat} {v m : Int} (h : i < o ∨ o + w ≤ i) : (sdef s o w v m).1 i = s.1 i ∧ (sdef s o w v m).2 i = s.2 i := ⟨setB_out h, setB_out h⟩
theorem sbar_out {s : St} {o i : Nat} {k z : Int} (h : i < o ∨ o + 8 ≤ i) : (sbar s o k z).1 i = s.1 i ∧ (sbar s o k z).2 i = s.2 i := by
  unfold sbar
  repeat' split
  all_goals first | exact sdef_out (by omega) | exact ⟨rfl, rfl⟩
theorem sbars_out {s : St} {B : List Bar} {i : Nat} : ∀ n, n ≤ 6 → (i < 16 ∨ 44 ≤ i) → (sbars s B n).1 i = s.1 i ∧ (sbars s B n).2 i = s.2 i
  | 0, _, _ => ⟨rfl, rfl⟩
  | n + 1, hn, h => by
    have h1 := sbars_out (s := s) (B := B) n (by omega) h
    have h2 := sbar_out (s := sbars s B n) (o := 16 + 4 * n) (k := bk B n) (z := bz B n) (i := i) (by omega)
    exact ⟨h2.1.trans h1.1, h2.2.trans h1.2⟩
theorem sbr_out {s : St} {i : Nat} (h : i < 14 ∨ 36 ≤ i) : (sbr s).1 i = s.1 i ∧ (sbr s).2 i = s.2 i := by
  unfold sbr sdef setB
  dsimp only
  repeat rw [if_neg (by omega)]
  exact ⟨rfl, rfl⟩
theorem spf_out {s : St} {i : Nat} (h : i < 36 ∨ 48 ≤ i) : (spf s).1 i = s.1 i ∧ (spf s).2 i = s.2 i := by
  unfold spf sdef setB
  dsimp only
  repeat rw [if_neg (by omega)]
  exact ⟨rfl, rfl⟩
theorem regs_le (b : Bool) : regs b ≤ 6 := by unfold regs; split <;> omega
theorem sinit_out (f : Fn) {i : Nat} (h : i < 14 ∨ 48 ≤ i) : (sinit f).1 i = (sbase f).1 i ∧ (sinit f).2 i = (sbase f).2 i := by
  have h1 := sbars_out (s := sbase f) (B := f.bars) (i := i) _ (regs_le f.bridge) (by omega)
  have h2 := sbr_out (s := sbars (sbase f) f.bars (regs f.bridge)) (i := i) (by omega)
  have h3 := spf_out (s := sbr (sbars (sbase f) f.bars (regs f.bridge))) (i := i) (by omega)
  unfold sinit sbridge
  repeat' split
  · exact ⟨h3.1.trans (h2.1.trans h1.1), h3.2.trans (h2.2.trans h1.2)⟩
  · exact ⟨h2.1.trans h1.1, h2.2.trans h1.2⟩
  · exact h1
theorem sinit_14 (f : Fn) : (sinit f).2 14 = 0 := by
  have h1 := (sbars_out (s := sbase f) (B := f.bars) (i := 14) _ (regs_le f.bridge) (by omega)).2
  have hr : (sbr (sbars (sbase f) f.bars (regs f.bridge))).2 14 = 0 := by unfold sbr sdef setB; simp; decide
  have h3 := (spf_out (s := sbr (sbars (sbase f) f.bars (regs f.bridge))) (i := 14) (by omega)).2
  unfold sinit sbridge
  repeat' split
  · exact h3.trans hr
  · exact hr
  · exact h1.trans (by unfold sbase sdef setB; simp)

theorem byteOf_zero (k : Nat) : byteOf 0 k = 0 := by unfold byteOf; rw [u8_wrap]; simp
theorem sbase_ro (f : Fn) {i : Nat} (h : i ≤ 3 ∨ i = 61) : (sbase f).2 i = 0 := by
  unfold sbase sdef setB
  dsimp only
  rcases (by omega : i = 0 ∨ i = 1 ∨ i = 2 ∨ i = 3 ∨ i = 61) with rfl | rfl | rfl | rfl | rfl <;> simp [byteOf_zero]
theorem sinit_ro (f : Fn) {i : Nat} (h : i ≤ 3 ∨ i = 61 ∨ i = 14) : (sinit f).2 i = 0 := by
  by_cases h14 : i = 14
  · subst h14; exact sinit_14 f
  · rw [(sinit_out f (by omega)).2]; exact sbase_ro f (by omega)

theorem byte0 {v : Int} (h : 0 ≤ v ∧ v < 18446744073709551616) : byteOf (IntKind.u64.wrap v) 0 = v % 256 := by
  unfold byteOf
  rw [u64_in (by omega), u8_wrap, Int.fdiv_eq_ediv_of_nonneg _ (by decide)]
  simp
theorem byte1 {v : Int} (h : 0 ≤ v ∧ v < 18446744073709551616) : byteOf (IntKind.u64.wrap v) 1 = v / 256 % 256 := by
  unfold byteOf
  rw [u64_in (by omega), u8_wrap, Int.fdiv_eq_ediv_of_nonneg _ (by decide)]
  simp

theorem sinit_vendor (f : Fn) (h : 0 ≤ f.vendor ∧ f.vendor ≤ 65535) : numB (sinit f).1 0 2 = f.vendor := by
  simp only [numB, numT]
  rw [(sinit_out f (i := 0 + (2 - (1 + 1))) (by omega)).1, (sinit_out f (i := 0 + (2 - (0 + 1))) (by omega)).1]
  have h0 : (sbase f).1 (0 + (2 - (1 + 1))) = f.vendor % 256 := by unfold sbase sdef setB; simp; exact byte0 (by omega)
  have h1 : (sbase f).1 (0 + (2 - (0 + 1))) = f.vendor / 256 % 256 := by unfold sbase sdef setB; simp; exact byte1 (by omega)
  rw [h0, h1]
  omega
theorem sinit_device (f : Fn) (h : 0 ≤ f.device ∧ f.device ≤ 65535) : numB (sinit f).1 2 2 = f.device := by
  simp only [numB, numT]
  rw [(sinit_out f (i := 2 + (2 - (1 + 1))) (by omega)).1, (sinit_out f (i := 2 + (2 - (0 + 1))) (by omega)).1]
  have h0 : (sbase f).1 (2 + (2 - (1 + 1))) = f.device % 256 := by unfold sbase sdef setB; simp; exact byte0 (by omega)
  have h1 : (sbase f).1 (2 + (2 - (0 + 1))) = f.device / 256 % 256 := by unfold sbase sdef setB; simp; exact byte1 (by omega)
  rw [h0, h1]
  omega
theorem sinit_pin (f : Fn) (h : 0 ≤ f.pin ∧ f.pin ≤ 255) : numB (sinit f).1 61 1 = f.pin := by
  simp only [numB, numT]
  rw [(sinit_out f (i := 61 + (1 - (0 + 1))) (by omega)).1]
  have h0 : (sbase f).1 (61 + (1 - (0 + 1))) = f.pin % 256 := by unfold sbase sdef setB; simp; exact byte0 (by omega)
  rw [h0]
  omega

/-- A device after accesses: its fixed bytes are as they were. -/
structure Acc (H : Heap) (b g : Nat) (f : Fn) : Prop where
  ex : ∃ ys, PD H b ys (sinit f).2 (prest g f) ∧ Bytes ys ∧ ∀ i, (sinit f).2 i = 0 → ys i = (sinit f).1 i

theorem Acc.first {H : Heap} {b g : Nat} {f : Fn} (d : PD H b (sinit f).1 (sinit f).2 (prest g f)) : Acc H b g f := ⟨_, d, sinit_bytes f, fun _ _ => rfl⟩
theorem Acc.ext {H H' : Heap} {b g : Nat} {f : Fn} (h : Acc H b g f) (e : Ext H H') : Acc H' b g f := by
  obtain ⟨ys, d, hy, hro⟩ := h.ex
  exact ⟨ys, d.ext e, hy, hro⟩
theorem Acc.lt {H : Heap} {b g : Nat} {f : Fn} (h : Acc H b g f) : b < H.size := by
  obtain ⟨ys, d, hy, hro⟩ := h.ex
  exact d.lt
theorem Acc.write {H : Heap} {b g : Nat} {f : Fn} (h : Acc H b g f) (o w v : Int) :
    CallsH Try.prog n_pciconf_Device_Write #[.pointer (some ⟨b, 0, none⟩), .int .i64 o, .int .i64 w, .int .u64 v] H (fun x H' => x = .tuple #[] ∧ Acc H' b g f ∧ Mods [b] H H') := by
  obtain ⟨ys, d, hy, hro⟩ := h.ex
  refine (Write_spec b ys _ _ o w v H d).mono ?_
  rintro x H' ⟨rfl, d', m'⟩
  exact ⟨rfl, ⟨_, d', writeF_bytes hy _ _ _, fun i hi => (writeF_ro hy hi).trans (hro i hi)⟩, m'⟩

theorem opAt {H : Heap} {l : Sl} {L : List OpR} (h : IsS 5 encOp H l L) {k : Nat} (hk : k < L.length) :
    ∃ (a : Addr) (o : OpR), l.p = some a ∧ rd H (a.add ((k : Int).toNat * 5)) = some (.int .i64 o.1) ∧ rd H ((a.add ((k : Int).toNat * 5)).add 1) = some (.int .i64 o.2.1) ∧ rd H ((a.add ((k : Int).toNat * 5)).add 2) = some (.bool o.2.2.1) ∧ rd H ((a.add ((k : Int).toNat * 5)).add 3) = some (.int .u64 o.2.2.2.1) ∧ rd H ((a.add ((k : Int).toNat * 5)).add 4) = some (.bool o.2.2.2.2) := by
  obtain ⟨a, hp, hr⟩ := IsS.atN h ((0, 0, false, 0, false) : OpR) hk
  exact ⟨a, _, hp, hr 0 _ rfl, hr 1 _ rfl, hr 2 _ rfl, hr 3 _ rfl, hr 4 _ rfl⟩

theorem readF_pos {ys : Nat → Int} {o w : Int} (h : Formed o w) : readF ys o w = numB ys o.toNat w.toNat := by unfold readF; rw [if_pos h]

theorem law_readOnly (H : Heap) (f : Fn) (s l : Sl) (L : List OpR) (hB : Bars H s f.bars) (hs : f.bars.length ≤ 9223372036854775807) (hL : IsS 5 encOp H l L) :
    CallsH Try.prog n_law18_PciconfReadOnly #[fnV f s, .slice l.p l.n l.c] H (BoolP true H) := by
  refine F_law18_PciconfReadOnly_ok _ _ _ _ _ _ _ _ _ _ _ _ ?_
  unfold F_law18_PciconfReadOnly
  refine push_mk (vs := fnL f s) fun H1 e1 z1 b1 => ?_
  obtain ⟨p0, p1, p2, p3, p4, p5, p6, p7, p8, p9, p10⟩ := Blk.fn b1
  refine ⟨_, p0, _, p1, _, p2, _, p3, _, p4, _, p5, _, p6, _, p7, _, p8, _, p9, _, p10, (some_spec f s H1 (hB.ext e1) hs).mono ?_⟩
  rintro v H2 ⟨g, sl, rfl, hB2, e2, _, _⟩
  refine ⟨_, _, _, _, _, _, _, _, _, _, sl, rfl, local_mk (vs := fnL g sl) rfl rfl fun H4 e4 z4 b4 => ?_⟩
  have x4 := (e1.trans e2).trans e4
  have hB4 := hB2.ext e4
  obtain ⟨p0, p1, p2, p3, p4, p5, p6, p7, p8, p9, p10⟩ := Blk.fn b4
  refine ⟨_, p0, _, p1, _, p2, _, p3, _, p4, _, p5, _, p6, _, p7, _, p8, _, p9, _, p10, (rValid_spec g sl H4 hB4).mono ?_⟩
  rintro v H5 ⟨rfl, e5⟩
  have x5 := x4.trans e5
  refine ⟨_, rfl, iteB_not (fun c => ?_) (fun c => ?_)⟩
  · refine (awake_spec H5).mono ?_
    rintro v H6 ⟨rfl, e6⟩
    exact ⟨_, rfl, rfl, x5.trans e6⟩
  have hv : ValidF g := by simpa using c
  obtain ⟨p0, p1, p2, p3, p4, p5, p6, p7, p8, p9, p10⟩ := Blk.fn (b4.ext e5)
  refine ⟨_, p0, _, p1, _, p2, _, p3, _, p4, _, p5, _, p6, _, p7, _, p8, _, p9, _, p10, (New_spec g sl H5 (hB4.ext e5)).mono ?_⟩
  rintro v H7 (⟨b, gg, _, hb, hgg, hgb, d7, hx7, e7⟩ | ⟨hn, _⟩)
  rotate_left
  · exact absurd hv hn
  have y7 := e5.trans e7
  obtain ⟨p0, p1, p2, p3, p4, p5, p6, p7, p8, p9, p10⟩ := Blk.fn (b4.ext y7)
  refine ⟨_, _, rfl, _, p0, _, p1, _, p2, _, p3, _, p4, _, p5, _, p6, _, p7, _, p8, _, p9, _, p10, (New_spec g sl H7 (hB4.ext y7)).mono ?_⟩
  rintro v H8 (⟨b', gg', _, hb', hgg', hgb', d8, hx8, e8⟩ | ⟨hn, _⟩)
  rotate_left
  · exact absurd hv hn
  refine ⟨_, _, rfl, (awake_spec H8).mono ?_⟩
  rintro v H9 ⟨rfl, e9⟩
  have y9 := (y7.trans e8).trans e9
  obtain ⟨p0, p1, p2, p3, p4, p5, p6, p7, p8, p9, p10⟩ := Blk.fn (b4.ext y9)
  refine ⟨_, rfl, iteB_neg rfl (iteB_neg rfl (iteB_neg rfl (iteB_neg rfl (iteB_neg rfl ⟨_, p0, _, p1, _, p2, _, p3, _, p4, _, p5, _, p6, _, p7, _, p8, _, p9, _, p10, (NewDevice_spec g sl H9 (hB4.ext y9) hv).mono ?_⟩))))⟩
  rintro v H10 ⟨bx, rfl, hbx, d10, e10⟩
  have a10 : Acc H10 b gg g := Acc.first ((d7.ext (e8.trans e9)).ext e10)
  have c10 : PD H10 b' (sinit g).1 (sinit g).2 (prest gg' g) := (d8.ext e9).ext e10
  have y10 := y9.trans e10
  have b10 := b4.ext y10
  have x10 := x4.trans y10
  have lb := d7.lt
  have lb' := d8.lt
  have l4 := b4.lt
  have s4 := x4.size
  have s5 := e5.size
  have s9 := e9.size
  have hn := hL.len
  refine ⟨_, rfl, fun H' => Acc H' b gg g ∧ Mods [b] H10 H', ?_, ?_⟩
  · refine loop1 40 (fun k H' => Acc H' b gg g ∧ Mods [b] H10 H') ⟨a10, .refl _ _⟩ ?_
    rintro k H11 hk ⟨a11, m11⟩
    unfold F_law18_PciconfReadOnly_r1
    refine iteB_dec (fun c1 => iteB_dec (fun c2 => ?_) (fun _ => ⟨a11, m11⟩)) (fun _ => ⟨a11, m11⟩)
    have x11 : Ext H H11 := Mods.ext x10 m11 (by simp; omega)
    obtain ⟨a, o, hp, r0, r1, r2, r3, r4⟩ := opAt (hL.ext x11) (k := k) (by omega)
    refine ⟨by omega, by omega, unSome_mk hp ⟨_, r0, _, r1, _, r2, _, r3, _, r4, (access_spec o H11).mono ?_⟩⟩
    rintro v H12 ⟨aa, w, rfl, e12⟩
    refine ⟨_, _, rfl, by omega, by omega, unSome_mk hp ⟨_, e12.rd r3, ((a11.ext e12).write _ _ _).mono ?_⟩⟩
    rintro v H13 ⟨rfl, a13, m13⟩
    refine ⟨rfl, letV_mk _ rfl (next1 (by omega) (by omega) ⟨a13, (m11.trans e12.mods).trans m13⟩)⟩
  · rintro H14 ⟨a14, m14⟩
    unfold F_law18_PciconfReadOnly_k3
    have c14 := c10.mods m14 (by simp; omega)
    have d14 := d10.mods m14 (by simp; omega)
    have b14 := b10.mods m14 (by simp; omega)
    have x14 : Ext H H14 := Mods.ext x10 m14 (by simp; omega)
    have hy := sinit_bytes g
    refine ⟨fun at_ H' => H' = H14 ∧ ∃ k : Nat, at_ = 4 * k ∧ k ≤ 64, fun at_ _ => (300 - at_).toNat, ⟨rfl, 0, by simp, by omega⟩, ?_⟩
    rintro at_ H15 ⟨rfl, k, hat, hk⟩
    unfold F_law18_PciconfReadOnly_r2
    refine iteB_lt (fun c1 => ?_) (fun c1 => ?_)
    · refine (Read_spec b' _ _ _ _ 4 H15 c14 hy).mono ?_
      rintro v H16 ⟨rfl, rfl⟩
      refine ⟨_, rfl, (rRead_spec bx _ _ _ _ 4 H16 d14 hy (by omega)).mono ?_⟩
      rintro v H17 ⟨rfl, rfl⟩
      refine ⟨_, rfl, iteB_bne (fun c2 => absurd rfl c2) (fun _ => letV_mk (at_ + 4) (i64_in (by omega)) ⟨⟨rfl, k + 1, by omega, by omega⟩, by dsimp only; omega⟩)⟩
    · obtain ⟨ys, d15, hys, hro⟩ := a14.ex
      have hb : numB ys 0 2 = numB (sinit g).1 0 2 := numB_congr (fun i _ _ => hro i (sinit_ro g (by omega)))
      have hb2 : numB ys 2 2 = numB (sinit g).1 2 2 := numB_congr (fun i _ _ => hro i (sinit_ro g (by omega)))
      have hb3 : numB ys 14 1 = numB (sinit g).1 14 1 := numB_congr (fun i _ _ => hro i (sinit_ro g (by omega)))
      have hb4 : numB ys 61 1 = numB (sinit g).1 61 1 := numB_congr (fun i _ _ => hro i (sinit_ro g (by omega)))
      obtain ⟨p0, p1, p2, p3, p4, p5, p6, p7, p8, p9, p10⟩ := Blk.fn b14
      have hve := hv.ve
      have hde := hv.de
      have hpi := hv.pi
      refine ⟨_, p2, (Read_spec b _ _ _ 0 2 H15 d15 hys).mono ?_⟩
      rintro v H18 ⟨rfl, rfl⟩
      refine ⟨_, rfl, .refl _ _, iteB_beq (fun _ => ⟨_, p3, (Read_spec b _ _ _ 2 2 H18 d15 hys).mono ?_⟩) (fun cn => absurd ?_ cn)⟩
      rotate_left
      · rw [readF_pos (by decide), u64_in (by omega)]
        exact hb.trans (sinit_vendor g (by omega))
      rintro v H19 ⟨rfl, rfl⟩
      refine ⟨_, rfl, .refl _ _, iteB_beq (fun _ => (Read_spec b _ _ _ 14 1 H19 d15 hys).mono ?_) (fun cn => absurd ?_ cn)⟩
      rotate_left
      · rw [readF_pos (by decide), u64_in (by omega)]
        exact hb2.trans (sinit_device g (by omega))
      rintro v H20 ⟨rfl, rfl⟩
      refine ⟨_, rfl, (rRead_spec bx _ _ _ 14 1 H20 d14 hy (by omega)).mono ?_⟩
      rintro v H21 ⟨rfl, rfl⟩
      refine ⟨_, rfl, iteB_beq (fun _ => ⟨_, p8, (Read_spec b _ _ _ 61 1 H21 d15 hys).mono ?_⟩) (fun cn => absurd ?_ cn)⟩
      rotate_left
      · rw [readF_pos (by decide), readF_pos (by decide)]
        exact hb3
      rintro v H22 ⟨rfl, rfl⟩
      refine ⟨_, rfl, .refl _ _, ?_, x14⟩
      have : readF ys 61 1 = g.pin := by
        rw [readF_pos (by decide)]
        exact hb4.trans (sinit_pin g (by omega))
      rw [this, u64_in (by omega)]
      simp

end Go.Proofs.Ytankllejpldleaa
