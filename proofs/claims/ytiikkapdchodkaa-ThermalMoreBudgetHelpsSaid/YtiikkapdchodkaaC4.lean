/-
  Contracts of the heat model's New, Energy, Released, and of the laws' Powers, over the shallow readings.
-/
import Derived.Test.YtiikkapdchodkaaC3
namespace Go.Proofs.Ytiikkapdchodkaa
open Go.Eng Go.Heat

variable {Q : Nat → Prop}

def CloneP {α : Type} (sz : Nat) (enc : α → List Value) (l : List α) (H : Heap) (v : Value) (H' : Heap) : Prop :=
  ∃ s' : Sl, v = .slice s'.p s'.n s'.c ∧ IsS sz enc H' s' l ∧ NewP H.size s'.p ∧ (∀ a, s'.p = some a → a.block < H'.size) ∧ Ext H H'

theorem CloneD_spec (H : Heap) (s : Sl) (l : List Dom) (h : Doms H s l) (hn : s.n ≤ 1000000) :
    CallsH Try.prog n_slices_Clone_sl_api_HeatDomain_api_HeatDomain #[.slice s.p s.n s.c] H (CloneP 2 encD l H) := by
  refine F_slices_Clone_sl_api_HeatDomain_api_HeatDomain_ok _ ?_
  exact clone_vc (P := Try.prog) (st := t_sl_api_HeatDomain) (e := t_api_HeatDomain) (R := CloneP 2 encD l H) (z := .agg #[.int .i64 0, .int .i64 0]) (sz := 2) (bytes := 16) (enc := encD) (by kernel_rfl) (by kernel_rfl) rfl (by omega) encD_len (fun x u hu => by simp [encD] at hu; rcases hu with rfl | rfl <;> rfl) h (by simp [maxLen]; omega) (by omega)
    (fun s' H' ho hi he => ⟨s', rfl, hi, ho.new, ho.lt, he⟩)

theorem CloneL_spec (H : Heap) (s : Sl) (l : List Lnk) (h : Lnks H s l) (hn : s.n ≤ 1000000) :
    CallsH Try.prog n_slices_Clone_sl_api_HeatLink_api_HeatLink #[.slice s.p s.n s.c] H (CloneP 3 encL l H) := by
  refine F_slices_Clone_sl_api_HeatLink_api_HeatLink_ok _ ?_
  exact clone_vc (P := Try.prog) (st := t_sl_api_HeatLink) (e := t_api_HeatLink) (R := CloneP 3 encL l H) (z := .agg #[.int .i64 0, .int .i64 0, .int .i64 0]) (sz := 3) (bytes := 24) (enc := encL) (by kernel_rfl) (by kernel_rfl) rfl (by omega) encL_len (fun x u hu => by simp [encL] at hu; rcases hu with rfl | rfl | rfl <;> rfl) h (by simp [maxLen]; omega) (by omega)
    (fun s' H' ho hi he => ⟨s', rfl, hi, ho.new, ho.lt, he⟩)

def powersF (raw : List Int) (most : Int) (i : Nat) : Int := if i < raw.length then modI (raw.getD i 0) (most + 1) else 0

theorem Powers_spec (H : Heap) (s : Sl) (raw : List Int) (n : Nat) (most : Int) (h : Ints .i64 H s raw) (hn : n ≤ 1000000) (hm : 0 ≤ most ∧ most ≤ 1000000000) :
    CallsH Try.prog n_law38_Powers #[.slice s.p s.n s.c, .int .i64 n, .int .i64 most] H (fun v H' => ∃ s' : Sl, v = .slice s'.p s'.n s'.c ∧ s'.p = some ⟨H.size, 0, none⟩ ∧ s'.n = n ∧ IBlk .i64 H' H.size t_int64 n (powersF raw most) ∧ Ext H H') := by
  refine F_law38_Powers_ok _ _ _ ?_
  unfold F_law38_Powers
  refine ⟨by omega, by omega, by omega, letH_mk ?_⟩
  rintro H1 rfl
  have hto : ((n : Int).toNat) = n := by simp
  rw [hto]
  have z1 := IBlk.zero (k := .i64) H t_int64 n
  refine ⟨fun x H' => Ext H H' ∧ ∃ k : Nat, x = k ∧ k ≤ n ∧ k ≤ raw.length ∧ IBlk .i64 H' H.size t_int64 n (fun i => if i < k then modI (raw.getD i 0) (most + 1) else 0), fun x _ => n - x.toNat,
    ⟨Ext.push _ _, 0, rfl, Nat.zero_le _, Nat.zero_le _, z1.congr (fun i _ => by simp)⟩, ?_⟩
  rintro x H2 ⟨e2, k, rfl, hk, hkr, hb⟩
  have done : (k = n ∨ k = raw.length) → ∃ s' : Sl, Value.slice (some (⟨H.size, 0, none⟩ : Addr)) n n = .slice s'.p s'.n s'.c ∧ s'.p = some ⟨H.size, 0, none⟩ ∧ s'.n = n ∧ IBlk .i64 H2 H.size t_int64 n (powersF raw most) ∧ Ext H H2 := by
    intro hor
    refine ⟨⟨some ⟨H.size, 0, none⟩, n, n⟩, rfl, rfl, rfl, hb.congr (fun i hi => ?_), e2⟩
    unfold powersF
    by_cases e : i < k
    · rw [if_pos e, if_pos (by omega)]
    · rw [if_neg e, if_neg (by omega)]
  unfold F_law38_Powers_r1
  refine iteB_intro (fun c => iteB_intro (fun c2 => ?_) (fun c2 => ?_)) (fun c => ?_)
  · have hkn : k < n := by simp at c; omega
    rw [h.len] at c2 ⊢
    have hkl : k < raw.length := by simp at c2; omega
    obtain ⟨a, hp, hr⟩ := Ints.at (h.ext e2) (x := k) (by omega) (by omega)
    simp only [Int.toNat_natCast] at hr ⊢
    have hw : IntKind.i64.wrap (most + 1) = most + 1 := i64_in (by omega)
    have hw2 : IntKind.u64.wrap (most + 1) = most + 1 := u64_in (by omega)
    rw [hw, hw2]
    refine ⟨by omega, by omega, unSome_mk hp ⟨raw.getD k 0, hr, by omega, by omega, by simpa using hkn, by simpa using hb.ok hkn, letH_mk ?_⟩⟩
    rintro H3 rfl
    rw [umod_code _ (by omega) (by omega)]
    refine letV_mk ((k + 1 : Nat) : Int) (by rw [i64_in (by omega)]; simp) ⟨⟨Mods.ext e2 (mods_wr_add (S := [H.size]) (by simp)) (by simp), k + 1, rfl, by omega, by omega, ?_⟩, by simp only [Int.toNat_natCast]; omega⟩
    refine (hb.wr hkn _).congr (fun i hi => ?_)
    by_cases e : i = k
    · subst e; rw [upd_same, if_pos (by omega)]
    · rw [upd_ne e]
      by_cases e2 : i < k
      · rw [if_pos e2, if_pos (by omega)]
      · rw [if_neg e2, if_neg (by omega)]
  · rw [h.len] at c2
    exact done (.inr (by simp at c2; omega))
  · exact done (.inl (by simp at c; omega))

def NewPost (D : List Dom) (L : List Lnk) (amb : Int) (H : Heap) (v : Value) (H' : Heap) : Prop :=
  (VS D L amb ∧ ∃ b be : Nat, v = .tuple #[.pointer (some ⟨b, 0, none⟩), .int .i64 0] ∧ HM t_heat_Model (fun k => H.size ≤ k) H' b be D L amb (fun i => capOf D i * amb) 0 ∧ H.size ≤ b ∧ H.size ≤ be ∧ Ext H H') ∨
  (¬ VS D L amb ∧ v = .tuple #[.pointer none, .int .i64 1] ∧ Ext H H')

/-- The loop of New, in whatever order the parts were made. -/
theorem new_loop (H0 Hs : Heap) (ds : Sl) (D : List Dom) (L : List Lnk) (amb : Int) (be : Nat) (hv : VS D L amb) (hd : Doms H0 ds D) (hbe : H0.size ≤ be) (hlen : H0.size ≤ Hs.size)
    (H : Heap) (he : Ext H0 H) (hm : HM t_heat_Model (fun k => H0.size ≤ k) H Hs.size be D L amb (fun _ => 0) 0) :
    ∃ I : Int → Heap → Prop, ∃ M : Int → Heap → Nat, I 0 H ∧ ∀ x : Int, ∀ H6 : Heap, I x H6 → F_heat_New_r1 (NewPost D L amb H0) ds amb Hs I M x H6 := by
  have hn16 := hv.n16
  have ha0 := hv.amb0
  have ha1 := hv.amb1
  refine ⟨fun x H' => Ext H0 H' ∧ ∃ k : Nat, x = k ∧ k ≤ D.length ∧ HM t_heat_Model (fun k => H0.size ≤ k) H' Hs.size be D L amb (fun i => if i < k then capOf D i * amb else 0) 0, fun x _ => D.length - x.toNat,
    ⟨he, 0, rfl, Nat.zero_le _, hm.congr (fun i _ => by simp)⟩, ?_⟩
  rintro x H6 ⟨e6, k, rfl, hk, h6⟩
  unfold F_heat_New_r1
  rw [hd.len]
  refine iteB_intro (fun c => ?_) (fun c => ?_)
  · have hkn : k < D.length := by simpa using c
    obtain ⟨a, hpa, hr0, hr1⟩ := Doms.at (hd.ext e6) (x := k) (by omega) (by omega)
    refine ⟨by omega, by omega, unSome_mk hpa ⟨_, hr0, _, hr1, ?_⟩⟩
    refine local_mk (by simp) (by simp) ?_
    intro H8 e8 z8 hb8
    have h8 := h6.ext e8
    obtain ⟨⟨d', l', ce', q1, q2, q3, q4, q5⟩, q6, q7⟩ := id h8
    have hbl := h6.blt
    simp only [Int.toNat_natCast] at hb8 ⊢
    refine ⟨⟨some ⟨be, 0, none⟩, D.length, ce'⟩, q1.rd (i := 3) rfl, _, hb8.rd0 rfl, by omega, by simpa using hkn, ?_⟩
    refine ⟨q6.ok hkn, letH_mk ?_⟩
    rintro H9 rfl
    have hc := hv.cap k hkn
    have hdk := hv.dom k hkn
    have hnb := need_bound (L := L) (n := D.length) k L.length hv.lnk
    have hmb := mul_bound (a := capOf D k) (b := amb) (A := 16777216) (B := 16777216) (by omega) (by omega) (by omega) (by omega)
    rw [i64_in (n := capOf D k * amb) (by omega)]
    have h9 := h8.setEn hkn (capOf D k * amb)
    rw [show IntKind.i64.wrap ((k : Int) + 1) = ((k + 1 : Nat) : Int) by rw [i64_in (by omega)]; simp]
    refine ⟨⟨Mods.ext (e6.trans e8) (mods_wr_add (S := [be]) (by simp)) (by simpa using hbe), k + 1, rfl, by omega, h9.congr (fun i hi => ?_)⟩, by simp only [Int.toNat_natCast]; omega⟩
    by_cases e : i = k
    · subst e; rw [upd_same, if_pos (by omega)]
    · rw [upd_ne e]
      by_cases e2 : i < k
      · rw [if_pos e2, if_pos (by omega)]
      · rw [if_neg e2, if_neg (by omega)]
  · have hkn : k = D.length := by simp at c; omega
    subst hkn
    exact .inl ⟨hv, Hs.size, be, rfl, h6.congr (fun i hi => by rw [if_pos hi]), hlen, hbe, e6⟩

theorem New_spec (H : Heap) (ds ls : Sl) (D : List Dom) (L : List Lnk) (amb : Int) (hd : Doms H ds D) (hl : Lnks H ls L) (hll : L.length ≤ 1000) :
    CallsH Try.prog n_heat_New #[.slice ds.p ds.n ds.c, .slice ls.p ls.n ls.c, .int .i64 amb] H (NewPost D L amb H) := by
  refine F_heat_New_ok _ _ _ ?_
  unfold F_heat_New
  refine (valid_spec H ds ls D L amb hd hl hll).mono ?_
  rintro v H1 ⟨⟨rfl, hv⟩ | ⟨rfl, hv⟩, e1⟩
  rotate_left
  · exact ⟨_, rfl, iteB_pos rfl (.inr ⟨hv, rfl, e1⟩)⟩
  refine ⟨_, rfl, iteB_neg rfl ?_⟩
  have hn16 := hv.n16
  have hd1 := hd.ext e1
  have hl1 := hl.ext e1
  have hto : ((D.length : Int).toNat) = D.length := by simp
  obtain ⟨dp, dn, dc⟩ := ds
  obtain rfl : dn = D.length := hd.len
  dsimp only
  have hls : ls.n = L.length := hl.len
  refine ⟨?_, ?_⟩
  · refine (CloneD_spec H1 ⟨dp, D.length, dc⟩ D hd1 (by dsimp only; omega)).mono ?_
    rintro v H2 ⟨s1, rfl, i1, n1, l1, e2⟩
    refine ⟨_, rfl, ?_, ?_⟩
    · refine (CloneL_spec H2 ls L (hl1.ext e2) (by omega)).mono ?_
      rintro v H3 ⟨s2, rfl, i2, n2, l2, e3⟩
      refine ⟨_, rfl, by omega, by omega, by omega, letH_mk ?_⟩
      rintro H4 rfl
      refine letH_mk ?_
      rintro H5 rfl
      rw [hto]
      have z := IBlk.zero (k := .i64) H3 t_int64 D.length
      have ep := Ext.push H3 (.cells (zeroRow (.int .i64 (0 : Int)) D.length) t_int64 (0, 0))
      have eq := Ext.push (H3.push (.cells (zeroRow (.int .i64 (0 : Int)) D.length) t_int64 (0, 0))) (.cells #[.slice s1.p s1.n s1.c, .slice s2.p s2.n s2.c, .int .i64 amb, .slice (some (⟨H3.size, 0, none⟩ : Addr)) D.length D.length, .int .i64 (0 : Int)] t_heat_Model (0, 0))
      have z1 := e1.size
      have z2 := e2.size
      have z3 := e3.size
      refine new_loop H _ ⟨dp, D.length, dc⟩ D L amb H3.size hv hd (by omega) (by simp; omega) _ ((((e1.trans e2).trans e3).trans ep).trans eq) ⟨⟨s1, s2, D.length, Blk.new _ _ _, ((i1.ext e3).ext ep).ext eq, (i2.ext ep).ext eq, fun a ha => ?_, fun a ha => ?_⟩, z.ext eq, by simp⟩
      · have := l1 a ha; have := n1 a ha; simp; omega
      · have := l2 a ha; have := n2 a ha; simp; omega
    · refine ⟨by omega, by omega, by omega, letH_mk ?_⟩
      rintro H10 rfl
      rw [hto]
      have z := IBlk.zero (k := .i64) H2 t_int64 D.length
      have ep := Ext.push H2 (.cells (zeroRow (.int .i64 (0 : Int)) D.length) t_int64 (0, 0))
      refine (CloneL_spec _ ls L ((hl1.ext e2).ext ep) (by omega)).mono ?_
      rintro v H3 ⟨s2, rfl, i2, n2, l2, e3⟩
      refine ⟨_, rfl, letH_mk ?_⟩
      rintro H5 rfl
      have eq := Ext.push H3 (.cells #[.slice s1.p s1.n s1.c, .slice s2.p s2.n s2.c, .int .i64 amb, .slice (some (⟨H2.size, 0, none⟩ : Addr)) D.length D.length, .int .i64 (0 : Int)] t_heat_Model (0, 0))
      have z1 := e1.size
      have z2 := e2.size
      have z3 := e3.size
      simp only [Array.size_push] at z3 n2
      refine new_loop H H3 ⟨dp, D.length, dc⟩ D L amb H2.size hv hd (by omega) (by omega) _ ((((e1.trans e2).trans ep).trans e3).trans eq) ⟨⟨s1, s2, D.length, Blk.new _ _ _, ((i1.ext ep).ext e3).ext eq, i2.ext eq, fun a ha => ?_, fun a ha => ?_⟩, (z.ext e3).ext eq, by omega⟩
      · have := l1 a ha; have := n1 a ha; simp; omega
      · have := l2 a ha; have := n2 a ha; simp; omega
  · refine ⟨by omega, by omega, by omega, letH_mk ?_⟩
    rintro H17 rfl
    rw [hto]
    have z := IBlk.zero (k := .i64) H1 t_int64 D.length
    have ep := Ext.push H1 (.cells (zeroRow (.int .i64 (0 : Int)) D.length) t_int64 (0, 0))
    refine (CloneD_spec _ ⟨dp, D.length, dc⟩ D (hd1.ext ep) (by dsimp only; omega)).mono ?_
    rintro v H2 ⟨s1, rfl, i1, n1, l1, e2⟩
    refine ⟨_, rfl, ?_⟩
    refine (CloneL_spec H2 ls L ((hl1.ext ep).ext e2) (by omega)).mono ?_
    rintro v H3 ⟨s2, rfl, i2, n2, l2, e3⟩
    refine ⟨_, rfl, letH_mk ?_⟩
    rintro H5 rfl
    have eq := Ext.push H3 (.cells #[.slice s1.p s1.n s1.c, .slice s2.p s2.n s2.c, .int .i64 amb, .slice (some (⟨H1.size, 0, none⟩ : Addr)) D.length D.length, .int .i64 (0 : Int)] t_heat_Model (0, 0))
    have z1 := e1.size
    have z2 := e2.size
    have z3 := e3.size
    simp only [Array.size_push] at z2 n1
    refine new_loop H H3 ⟨dp, D.length, dc⟩ D L amb H1.size hv hd (by omega) (by omega) _ ((((e1.trans ep).trans e2).trans e3).trans eq) ⟨⟨s1, s2, D.length, Blk.new _ _ _, (i1.ext e3).ext eq, i2.ext eq, fun a ha => ?_, fun a ha => ?_⟩, ((z.ext e2).ext e3).ext eq, by omega⟩
    · have := l1 a ha; have := n1 a ha; simp; omega
    · have := l2 a ha; have := n2 a ha; simp; omega

end Go.Proofs.Ytiikkapdchodkaa
