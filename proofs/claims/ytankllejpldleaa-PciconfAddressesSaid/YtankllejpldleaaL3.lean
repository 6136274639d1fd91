/-
  PciconfAddresses.
-/
import Derived.Test.YtankllejpldleaaB1
namespace Go.Proofs.Ytankllejpldleaa
open Go.Eng

theorem winAt {H : Heap} {l : Sl} {L : List WR} (h : IsS 5 encW H l L) {k : Nat} (hk : k < L.length) :
    ∃ (a : Addr) (x : WR), l.p = some a ∧ L[k]? = some x ∧ rd H (a.add ((k : Int).toNat * 5)) = some (.int .i64 x.1) ∧ rd H ((a.add ((k : Int).toNat * 5)).add 2) = some (.int .u64 x.2.2.1) ∧ rd H ((a.add ((k : Int).toNat * 5)).add 3) = some (.int .u64 x.2.2.2.1) ∧ rd H ((a.add ((k : Int).toNat * 5)).add 4) = some (.bool x.2.2.2.2) := by
  obtain ⟨a, hp, hr⟩ := h.get (List.getElem?_eq_getElem hk)
  rw [Int.toNat_natCast]
  refine ⟨a, L[k], hp, List.getElem?_eq_getElem hk, ?_, hr 2 _ rfl, hr 3 _ rfl, hr 4 _ rfl⟩
  have := hr 0 _ rfl
  rw [add_add'] at this
  exact this

structure Aligned (k z base : Int) : Prop where
  pos : 0 ≤ base
  lt : base < 2 ^ (8 * wwd k)
  dv : (2 ^ z.toNat : Nat) ∣ base.toNat

theorem aligned_of {k z base : Int} (hk : 1 ≤ k ∧ k ≤ 4) (hz : 0 ≤ z ∧ z ≤ 40) (hz2 : k < 3 → z ≤ 31) (hb : 0 ≤ base ∧ base ≤ 18446744073709551615) :
    0 ≤ winB base z ∧ winB base z ≤ 18446744073709551615 ∧ (¬ k < 3 → Aligned k z (winB base z)) ∧ (k < 3 → Aligned k z (bitsAnd .u64 (winB base z) 4294967295)) := by
  obtain ⟨n, rfl⟩ := Int.eq_ofNat_of_zero_le hb.1
  have hle : n / 2 ^ z.toNat * 2 ^ z.toNat ≤ n := Nat.div_mul_le_self _ _
  have e : winB (n : Int) z = ((n / 2 ^ z.toNat * 2 ^ z.toNat : Nat) : Int) := by
    unfold winB
    rw [Nat.min_eq_left (by show z.toNat ≤ 64; omega), Int.fdiv_eq_ediv_of_nonneg _ (Int.pow_nonneg (by omega))]
    have e : ((n : Int) / 2 ^ z.toNat * 2 ^ z.toNat) = ((n / 2 ^ z.toNat * 2 ^ z.toNat : Nat) : Int) := by push_cast; rfl
    rw [e]
    apply u64_in
    omega
  have hdv : 2 ^ z.toNat ∣ n / 2 ^ z.toNat * 2 ^ z.toNat := Nat.dvd_mul_left _ _
  rw [e]
  generalize n / 2 ^ z.toNat * 2 ^ z.toNat = m at *
  refine ⟨by omega, by omega, fun h3 => ⟨by omega, ?_, hdv⟩, fun h3 => ?_⟩
  · have : wwd k = 8 := by unfold wwd; rw [if_pos (by omega)]
    rw [this]
    show (m : Int) < 18446744073709551616
    omega
  · rw [and_low (by omega)]
    have : wwd k = 4 := by unfold wwd; rw [if_neg (by omega)]
    refine ⟨by omega, ?_, ?_⟩
    · rw [this]
      show ((m % 4294967296 : Nat) : Int) < 4294967296
      omega
    · rw [Int.toNat_natCast]
      have h32 : 2 ^ z.toNat ∣ 4294967296 := by
        rw [show (4294967296 : Nat) = 2 ^ 32 from rfl]
        exact Nat.pow_dvd_pow 2 (by omega)
      exact (Nat.dvd_mod_iff h32).2 hdv

theorem writeF_pos {ys ms : Nat → Int} {o w v : Int} (h : Formed o w) : writeF ys ms o w v = wrA ys ms o.toNat w.toNat v := by unfold writeF; rw [if_pos h]
theorem wrA_out {ys ms : Nat → Int} {o w i : Nat} {v : Int} (h : i < o ∨ o + w ≤ i) : wrA ys ms o w v i = ys i := by unfold wrA; rw [if_neg (by omega)]
theorem wrA_in {ys ms : Nat → Int} {o w j : Nat} {v : Int} (h : j < w) : wrA ys ms o w v (o + j) = wrB (ys (o + j)) (ms (o + j)) (byteOf v j) := by unfold wrA; rw [if_pos (by omega), show o + j - o = j by omega]

theorem addr_k2 (H H8 : Heap) (g : Fn) (i b gg : Nat) (base : Int) (on : Bool) (H19 : Heap) (ys ms : Nat → Int) (hv : ValidF g) (hi : i < g.bars.length) (hk : bk g.bars i ≠ 0) (d : PD H19 b ys ms (prest gg g)) (hy : Bytes ys)
    (hx : RB H19 gg t_api_Bar 2 encBar (xbars g)) (b8 : Blk H19 H8.size t_api_Bar (encBar (bk g.bars i, bz g.bars i))) (hw : winB (numB ys (16 + 4 * i) (wwd (bk g.bars i))) (bz g.bars i) = base) (hon : on = enF ys (wcl (bk g.bars i))) (x19 : Ext H H19) :
    F_law18_PciconfAddresses_k2 (BoolP true H) H8 i (some ⟨b, 0, none⟩) base on H19 := by
  unfold F_law18_PciconfAddresses_k2
  refine (Windows_spec b gg g ys ms H19 hv d hy hx).mono ?_
  rintro v H20 ⟨l, ws, ext, rfl, hl, hlen, hws, hext, e20⟩
  have hn := hl.len
  have b20 := b8.ext e20
  have hbl := hv.bl
  have hb := hv.ba i hi
  have hz : 0 ≤ bz g.bars i ∧ bz g.bars i ≤ 40 := by unfold BarOk at hb; omega
  have hu : IntKind.u64.wrap (bz g.bars i) = bz g.bars i := u64_in (by omega)
  refine ⟨l, rfl, ?_⟩
  refine loop1 ws.length (fun k H' => H' = H20 ∧ ∀ j x, j < k → ws[j]? = some x → x.1 ≠ i) ⟨rfl, fun j x hj => by omega⟩ ?_
  rintro k H21 hk2 ⟨rfl, hno⟩
  unfold F_law18_PciconfAddresses_r1
  refine iteB_dec (fun c => ?_) (fun c => ?_)
  · have hkn : k < ws.length := by omega
    obtain ⟨a, x, hp, hx, r0, r2, r3, r4⟩ := winAt hl hkn
    refine ⟨by omega, by omega, unSome_mk hp ⟨_, r0, iteB_beq (fun ce => ?_) (fun cn => letV_mk _ rfl (next1 hkn (by omega) ⟨rfl, fun j y hj hy => ?_⟩))⟩⟩
    · have hmem : x ∈ ws := List.mem_of_getElem? hx
      rw [hws, List.mem_append] at hmem
      have hxw : x = winOf ys g.bars i := by
        rcases hmem with hm | hm
        · obtain ⟨i', _, _, rfl⟩ := winsF_mem _ _ _ _ hm
          have : (i' : Int) = i := ce
          have : i' = i := by omega
          rw [this]
        · have := hext x hm
          omega
      subst hxw
      have r3' : rd H21 (((a.add ((k : Int).toNat * 5)).add 2).add 1) = some (.int .u64 (winL (bz g.bars i))) := by rw [add_add']; exact r3
      refine ⟨by omega, by omega, unSome_mk hp ⟨base, by rw [r2, ← hw]; rfl, _, r3', _, b20.rd (i := 1) rfl, by rw [hu]; exact hz.1, iteB_pos ?_ ⟨by omega, by omega, unSome_mk hp ⟨_, r4, ?_, x19.trans e20⟩⟩⟩⟩
      · rw [hu]
        simp [winL]
      · rw [hon]
        show Value.bool (enF ys (wcl (bk g.bars i)) == enF ys (wcl (bk g.bars i))) = _
        simp
    · by_cases e : j = k
      · subst e; rw [hx] at hy; cases hy; exact cn
      · exact hno j y (by omega) hy
  · exfalso
    have hm : winOf ys g.bars i ∈ ws := by
      rw [hws, List.mem_append]
      exact .inl (winsF_has ys g.bars _ i (by omega) hk)
    obtain ⟨j, hj, hje⟩ := List.mem_iff_getElem.1 hm
    exact hno j _ (by omega) (by rw [List.getElem?_eq_getElem hj, hje]) rfl

theorem addr_k3 (H H8 : Heap) (g : Fn) (i b gg : Nat) (base cmd : Int) (H17 : Heap) (ys : Nat → Int) (hv : ValidF g) (hi : i < g.bars.length) (hk : bk g.bars i ≠ 0) (d : PD H17 b ys (sinit g).2 (prest gg g)) (hy : Bytes ys)
    (hx : RB H17 gg t_api_Bar 2 encBar (xbars g)) (b8 : Blk H17 H8.size t_api_Bar (encBar (bk g.bars i, bz g.bars i))) (hal : Aligned (bk g.bars i) (bz g.bars i) base) (hc : 0 ≤ cmd ∧ cmd ≤ 255)
    (hat : ∀ j, j < wwd (bk g.bars i) → ys (16 + 4 * i + j) = wrB ((sinit g).1 (16 + 4 * i + j)) ((sinit g).2 (16 + 4 * i + j)) (byteOf base j)) (x17 : Ext H H17) (hbs : H.size ≤ b) (hgb : gg ≠ b) (h8b : H8.size ≠ b) :
    F_law18_PciconfAddresses_k3 (BoolP true H) cmd H8 i (some ⟨b, 0, none⟩) base H17 := by
  unfold F_law18_PciconfAddresses_k3
  have hb := hv.ba i hi
  have hz : 0 ≤ bz g.bars i ∧ bz g.bars i ≤ 40 := by unfold BarOk at hb; omega
  have huc : IntKind.u64.wrap cmd = cmd := u64_in (by omega)
  rw [huc]
  refine (Write_spec b ys _ _ 4 2 cmd H17 d).mono ?_
  rintro v H18 ⟨rfl, d18, m18⟩
  have b18 := b8.mods m18 (by simpa using h8b)
  have hx18 := hx.mods m18 (by simpa using hgb)
  have x18 : Ext H H18 := Mods.ext x17 m18 (by simpa using hbs)
  have hy18 := writeF_bytes (ms := (sinit g).2) hy 4 2 cmd
  have hf : writeF ys (sinit g).2 4 2 cmd = wrA ys (sinit g).2 4 2 cmd := writeF_pos (by decide)
  have hw : winB (numB (writeF ys (sinit g).2 4 2 cmd) (16 + 4 * i) (wwd (bk g.bars i))) (bz g.bars i) = base := by
    refine reg_back (ms := (sinit g).2) (y0 := (sinit g).1) (sinit_bytes g) hy18 (by unfold wwd; split <;> simp) (by omega) ⟨hal.pos, hal.lt⟩ hal.dv (fun j hj => sinit_at hv hi hk hj) (fun j hj => ?_)
    rw [hf, wrA_out (by omega)]
    exact hat j hj
  have h4 : writeF ys (sinit g).2 4 2 cmd 4 = wrB (ys 4) 7 cmd := by
    rw [hf]
    have := wrA_in (ys := ys) (ms := (sinit g).2) (o := 4) (w := 2) (j := 0) (v := cmd) (by omega)
    rw [Nat.add_zero, sinit_cmd] at this
    rw [this]
    congr 1
    unfold byteOf
    rw [u8_wrap, Int.fdiv_eq_ediv_of_nonneg _ (by decide)]
    simp
    omega
  have hen : ∀ c : Int, enF (writeF ys (sinit g).2 4 2 cmd) c = if c = 0 then bitsAnd .u8 cmd 1 != 0 else bitsAnd .u8 cmd 2 != 0 := by
    intro c
    unfold enF
    rw [h4]
    have w1 := and_bit (wrB_range (ys 4) 7 cmd)
    have w2 := and_bit hc
    rw [w1.1, w1.2, w2.1, w2.2, wrB_bit (hy 4) (by omega) hc (by omega), wrB_bit (hy 4) (by omega) hc (by omega)]
    rfl
  refine ⟨rfl, fun on H' => on = enF (writeF ys (sinit g).2 4 2 cmd) (wcl (bk g.bars i)) ∧ H' = H18, ⟨_, b18.rd0 rfl, ?_⟩, ?_⟩
  · refine iteB_beq (fun c1 => ⟨?_, rfl⟩) (fun c1 => ⟨?_, rfl⟩)
    · have : wcl (bk g.bars i) = 0 := by unfold wcl; rw [if_pos c1]
      rw [hen, if_pos this]
    · have : wcl (bk g.bars i) ≠ 0 := by unfold wcl; rw [if_neg c1]; split <;> omega
      rw [hen, if_neg this]
  · rintro on H19 ⟨hon, rfl⟩
    exact addr_k2 H H8 g i b gg base on H19 _ _ hv hi hk d18 hy18 hx18 b18 hw hon x18

theorem addr_k4 (H H8 : Heap) (g : Fn) (i b gg : Nat) (base cmd : Int) (H14 : Heap) (hv : ValidF g) (hi : i < g.bars.length) (hk : bk g.bars i ≠ 0) (d : PD H14 b (sinit g).1 (sinit g).2 (prest gg g))
    (hx : RB H14 gg t_api_Bar 2 encBar (xbars g)) (b8 : Blk H14 H8.size t_api_Bar (encBar (bk g.bars i, bz g.bars i))) (hal : Aligned (bk g.bars i) (bz g.bars i) base) (hb64 : base ≤ 18446744073709551615) (hc : 0 ≤ cmd ∧ cmd ≤ 255)
    (x14 : Ext H H14) (hbs : H.size ≤ b) (hgb : gg ≠ b) (h8b : H8.size ≠ b) :
    F_law18_PciconfAddresses_k4 (BoolP true H) cmd H8 i (some ⟨b, 0, none⟩) base H14 := by
  unfold F_law18_PciconfAddresses_k4
  have hbl := hv.bl
  have hrl := regs_le g.bridge
  have hb := hv.ba i hi
  have hy := sinit_bytes g
  rw [i64_in (n := (4 : Int) * i) (by omega), i64_in (n := (16 : Int) + 4 * i) (by omega), i64_in (n := (20 : Int) + 4 * i) (by omega)]
  obtain ⟨n, hn⟩ := Int.eq_ofNat_of_zero_le hal.pos
  have hf1 : Formed (16 + 4 * (i : Int)) 4 := ⟨by omega, by omega, by omega, by omega⟩
  have hf2 : Formed (20 + 4 * (i : Int)) 4 := ⟨by omega, by omega, by omega, by omega⟩
  refine (Write_spec b _ _ _ (16 + 4 * (i : Int)) 4 _ H14 d).mono ?_
  rintro v H15 ⟨rfl, d15, m15⟩
  have b15 := b8.mods m15 (by simpa using h8b)
  have hx15 := hx.mods m15 (by simpa using hgb)
  have x15 : Ext H H15 := Mods.ext x14 m15 (by simpa using hbs)
  have hy15 := writeF_bytes (ms := (sinit g).2) hy (16 + 4 * (i : Int)) 4 (bitsAnd .u64 base 4294967295)
  have e1 := writeF_pos (ys := (sinit g).1) (ms := (sinit g).2) (v := bitsAnd .u64 base 4294967295) hf1
  rw [show (16 + 4 * (i : Int)).toNat = 16 + 4 * i by omega, show (4 : Int).toNat = 4 from rfl] at e1
  have a1 : ∀ j, j < 4 → writeF (sinit g).1 (sinit g).2 (16 + 4 * (i : Int)) 4 (bitsAnd .u64 base 4294967295) (16 + 4 * i + j) = wrB ((sinit g).1 (16 + 4 * i + j)) ((sinit g).2 (16 + 4 * i + j)) (byteOf base j) := by
    intro j hj
    rw [e1, wrA_in hj, hn, and_low (by omega), byteOf_low hj]
  refine ⟨rfl, fun H' => ∃ ys, PD H' b ys (sinit g).2 (prest gg g) ∧ Bytes ys ∧ (∀ j, j < wwd (bk g.bars i) → ys (16 + 4 * i + j) = wrB ((sinit g).1 (16 + 4 * i + j)) ((sinit g).2 (16 + 4 * i + j)) (byteOf base j)) ∧ RB H' gg t_api_Bar 2 encBar (xbars g) ∧ Blk H' H8.size t_api_Bar (encBar (bk g.bars i, bz g.bars i)) ∧ Ext H H', ⟨_, b15.rd0 rfl, ?_⟩, ?_⟩
  · refine iteB_dec (fun c3 => ⟨by omega, ?_⟩) (fun c3 => ⟨_, d15, hy15, fun j hj => a1 j ?_, hx15, b15, x15⟩)
    · have hww : wwd (bk g.bars i) = 8 := by unfold wwd; rw [if_pos (by unfold BarOk at hb; omega)]
      rw [show min (32 : Int).toNat IntKind.u64.bits = 32 from rfl]
      refine (Write_spec b _ _ _ (20 + 4 * (i : Int)) 4 _ H15 d15).mono ?_
      rintro v H16 ⟨rfl, d16, m16⟩
      have e2 := writeF_pos (ys := writeF (sinit g).1 (sinit g).2 (16 + 4 * (i : Int)) 4 (bitsAnd .u64 base 4294967295)) (ms := (sinit g).2) (v := base.fdiv (2 ^ 32)) hf2
      rw [show (20 + 4 * (i : Int)).toNat = 20 + 4 * i by omega, show (4 : Int).toNat = 4 from rfl] at e2
      refine ⟨rfl, _, d16, writeF_bytes hy15 _ _ _, fun j hj => ?_, hx15.mods m16 (by simpa using hgb), b15.mods m16 (by simpa using h8b), Mods.ext x15 m16 (by simpa using hbs)⟩
      rw [e2]
      by_cases c4 : j < 4
      · rw [wrA_out (by omega)]; exact a1 j c4
      · rw [show 16 + 4 * i + j = 20 + 4 * i + (j - 4) by omega, wrA_in (by omega), e1, wrA_out (by omega), hn, byteOf_high (by omega), show 4 + (j - 4) = j by omega]
    · have : wwd (bk g.bars i) = 4 := by unfold wwd; rw [if_neg (by omega)]
      omega
  · rintro H17 ⟨ys, d17, hy17, hat, hx17, b17, x17⟩
    exact addr_k3 H H8 g i b gg base cmd H17 ys hv hi hk d17 hy17 hx17 b17 hal hc hat x17 hbs hgb h8b

theorem law_addresses (H : Heap) (f : Fn) (s : Sl) (i base cmd : Int) (hB : Bars H s f.bars) (hs : f.bars.length ≤ 9223372036854775807) (hb : 0 ≤ base ∧ base ≤ 18446744073709551615) (hc : 0 ≤ cmd ∧ cmd ≤ 255) :
    CallsH Try.prog n_law18_PciconfAddresses #[fnV f s, .int .i64 i, .int .u64 base, .int .u8 cmd] H (BoolP true H) := by
  refine F_law18_PciconfAddresses_ok _ _ _ _ _ _ _ _ _ _ _ _ _ _ ?_
  unfold F_law18_PciconfAddresses
  refine push_mk (vs := fnL f s) fun H1 e1 z1 b1 => ?_
  obtain ⟨p0, p1, p2, p3, p4, p5, p6, p7, p8, p9, p10⟩ := Blk.fn b1
  refine ⟨_, p0, _, p1, _, p2, _, p3, _, p4, _, p5, _, p6, _, p7, _, p8, _, p9, _, p10, (some_spec f s H1 (hB.ext e1) hs).mono ?_⟩
  rintro v H2 ⟨g, sl, rfl, hB2, e2, _, _⟩
  refine ⟨_, _, _, _, _, _, _, _, _, _, sl, rfl, local_mk (vs := fnL g sl) rfl rfl fun H4 e4 z4 b4 => ?_⟩
  have x4 := (e1.trans e2).trans e4
  have hB4 := hB2.ext e4
  have hn := hB4.len
  obtain ⟨p0, p1, p2, p3, p4, p5, p6, p7, p8, p9, p10⟩ := Blk.fn b4
  refine ⟨fun x H' => Ext H4 H' ∧ (x = false → ValidF g ∧ g.bars.length ≠ 0), ⟨_, p0, _, p1, _, p2, _, p3, _, p4, _, p5, _, p6, _, p7, _, p8, _, p9, _, p10, (rValid_spec g sl H4 hB4).mono ?_⟩, ?_⟩
  · rintro v H5 ⟨rfl, e5⟩
    obtain ⟨p0, p1, p2, p3, p4, p5, p6, p7, p8, p9, p10⟩ := Blk.fn (b4.ext e5)
    refine ⟨_, rfl, iteB_not (fun c => ⟨e5, fun h => by cases h⟩) (fun c => ⟨sl, p10, e5, fun h => ⟨by simpa using c, ?_⟩⟩)⟩
    intro h0
    rw [← hn] at h0
    rw [h0] at h
    simp at h
  rintro x H6 ⟨e6, hx⟩
  unfold F_law18_PciconfAddresses_k5
  have x6 := x4.trans e6
  refine iteB_intro (fun c => ?_) (fun c => ?_)
  · refine (awake_spec H6).mono ?_
    rintro v H8 ⟨rfl, e8⟩
    exact ⟨_, rfl, rfl, x6.trans e8⟩
  obtain ⟨hv, hne⟩ := hx c
  have hbl := hv.bl
  have hrl := regs_le g.bridge
  have b6 := b4.ext e6
  have hB6 := hB4.ext e6
  have q10 := (Blk.fn b6).2.2.2.2.2.2.2.2.2.2
  refine ⟨sl, q10, (Mod_spec _ _ H6 (by omega) (by omega)).mono ?_⟩
  rintro v H8 ⟨rfl, rfl⟩
  have hm := modI_range i (n := (sl.n : Int)) (by omega)
  obtain ⟨k, hk⟩ := Int.eq_ofNat_of_zero_le hm.1
  rw [hk] at hm
  refine ⟨(k : Int), by rw [hk], sl, q10, by omega, by omega, ?_⟩
  have hkl : k < g.bars.length := by omega
  obtain ⟨a, hp, r0, r1⟩ := Bars.atN hB6 hkl
  refine unSome_mk hp ⟨_, r0, _, r1, local_mk (vs := encBar (bk g.bars k, bz g.bars k)) rfl rfl fun H10 e10 z10 b10 => ⟨_, b10.rd0 rfl, iteB_beq (fun c0 => ?_) (fun c0 => ?_)⟩⟩
  · refine (awake_spec H10).mono ?_
    rintro v H11 ⟨rfl, e11⟩
    exact ⟨_, rfl, rfl, (x6.trans e10).trans e11⟩
  have hbk := hv.ba k hkl
  have hkk : 1 ≤ bk g.bars k ∧ bk g.bars k ≤ 4 := by unfold BarOk at hbk; omega
  have hz : 0 ≤ bz g.bars k ∧ bz g.bars k ≤ 40 := by unfold BarOk at hbk; omega
  have hz2 : bk g.bars k < 3 → bz g.bars k ≤ 31 := by unfold BarOk at hbk; omega
  have hu : IntKind.u64.wrap (bz g.bars k) = bz g.bars k := u64_in (by omega)
  obtain ⟨p0, p1, p2, p3, p4, p5, p6, p7, p8, p9, p10⟩ := Blk.fn (b6.ext e10)
  refine ⟨_, p0, _, p1, _, p2, _, p3, _, p4, _, p5, _, p6, _, p7, _, p8, _, p9, _, p10, (New_spec g sl H10 (hB6.ext e10)).mono ?_⟩
  rintro v H12 (⟨b, gg, _, hbb, hgg, hgb, d12, hx12, e12⟩ | ⟨hn, _⟩)
  rotate_left
  · exact absurd hv hn
  refine ⟨_, _, rfl, (awake_spec H12).mono ?_⟩
  rintro v H13 ⟨rfl, e13⟩
  have y13 := e12.trans e13
  have b13 := b10.ext y13
  have lb10 := b10.lt
  have r1 := b13.rd (i := 1) (v := .int .i64 (bz g.bars k)) rfl
  have hal := aligned_of hkk hz hz2 hb
  have s10 := e10.size
  have s6 := x6.size
  refine ⟨_, rfl, iteB_neg rfl (iteB_neg rfl (iteB_neg rfl ⟨_, r1, by rw [hu]; omega, _, r1, by rw [hu]; omega, letV_mk (winB base (bz g.bars k)) (by rw [hu]; rfl) ?_⟩))⟩
  refine ⟨fun b3 H' => Aligned (bk g.bars k) (bz g.bars k) b3 ∧ b3 ≤ 18446744073709551615 ∧ H' = H13, ⟨_, b13.rd0 rfl, iteB_dec (fun c3 => letV_mk _ rfl ⟨hal.2.2.2 c3, ?_, rfl⟩) (fun c3 => ⟨hal.2.2.1 c3, hal.2.1, rfl⟩)⟩, ?_⟩
  · obtain ⟨n, hn⟩ := Int.eq_ofNat_of_zero_le hal.1
    have := hal.2.1
    rw [hn] at this ⊢
    rw [and_low (by omega)]
    omega
  · rintro base3 H14 ⟨hal3, h64, rfl⟩
    exact addr_k4 H H8 g k b gg base3 cmd H14 hv hkl c0 (d12.ext e13) (hx12.ext e13) b13 hal3 h64 hc ((x6.trans e10).trans y13) (by omega) hgb (by omega)

end Go.Proofs.Ytankllejpldleaa
