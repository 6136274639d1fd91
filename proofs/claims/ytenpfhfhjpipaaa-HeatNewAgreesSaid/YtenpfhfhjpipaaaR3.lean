/-
  Contracts of the reference heat model's New and Bound; the law HeatStepsAgree.
-/
import Derived.Test.YtenpfhfhjpipaaaR2
namespace Go.Proofs.Ytenpfhfhjpipaaa
open Go.Eng Go.Heat

variable {Q : Nat → Prop}

def RNewPost (Q : Nat → Prop) (D : List Dom) (L : List Lnk) (amb : Int) (lt : Prop) (H : Heap) (v : Value) (H' : Heap) : Prop :=
  ((VS D L amb ∧ ∃ b be : Nat, v = .tuple #[.pointer (some ⟨b, 0, none⟩), .int .i64 0] ∧ (lt → HM t_ref38_Model Q H' b be D L amb (fun i => capOf D i * amb) 0) ∧ H.size ≤ b ∧ H.size ≤ be) ∨
  (¬ VS D L amb ∧ v = .tuple #[.pointer none, .int .i64 1])) ∧ Ext H H'

theorem rNew_spec (Q : Nat → Prop) (H : Heap) (ds ls : Sl) (D : List Dom) (L : List Lnk) (amb : Int) (hd : Doms H ds D) (hl : Lnks H ls L) (hll : L.length ≤ 1000) :
    CallsH Try.prog n_ref38_New #[.slice ds.p ds.n ds.c, .slice ls.p ls.n ls.c, .int .i64 amb] H (RNewPost Q D L amb (∀ a, (ds.p = some a ∨ ls.p = some a) → Q a.block ∧ a.block < H.size) H) := by
  refine F_ref38_New_ok _ _ _ ?_
  unfold F_ref38_New
  refine (rvalid_spec H ds ls D L amb hd hl hll).mono ?_
  rintro v H1 ⟨⟨rfl, hv⟩ | ⟨rfl, hv⟩, e1⟩
  rotate_left
  · exact ⟨_, rfl, iteB_pos rfl ⟨.inr ⟨hv, rfl⟩, e1⟩⟩
  have hn1 := hv.n1
  have hn16 := hv.n16
  have ha0 := hv.amb0
  have ha1 := hv.amb1
  obtain ⟨dp, dn, dc⟩ := ds
  obtain rfl : dn = D.length := hd.len
  refine ⟨_, rfl, iteB_neg rfl (letH_mk ?_)⟩
  dsimp only
  intro H2 h2
  have b2 : Blk H2 H1.size t_ref38_Model [.slice dp D.length dc, .slice ls.p ls.n ls.c, .int .i64 amb, .slice none 0 0, .int .i64 0] := by rw [h2]; exact Blk.new _ _ _
  have e2 : Ext H1 H2 := by rw [h2]; exact Ext.push _ _
  have z2 : H2.size = H1.size + 1 := by rw [h2]; simp
  clear h2
  have z1 := e1.size
  refine ⟨fun x H' => Ext H H' ∧ H1.size < H'.size ∧ ∃ (k : Nat) (sk : Sl), x = k ∧ k ≤ D.length ∧ Blk H' H1.size t_ref38_Model [.slice dp D.length dc, .slice ls.p ls.n ls.c, .int .i64 amb, .slice sk.p sk.n sk.c, .int .i64 0] ∧
      Own (H1.size + 1) t_int64 1 H' sk ((tab k (fun i => capOf D i * amb)).flatMap (encI .i64)), fun x _ => D.length - x.toNat,
    ⟨e1.trans e2, by omega, 0, ⟨none, 0, 0⟩, rfl, Nat.zero_le _, b2, Own.nil _ _ _ _⟩, ?_⟩
  rintro x H3 ⟨e3, z3, k, sk, rfl, hk, b3, o3⟩
  unfold F_ref38_New_r1
  have isk : Ints .i64 H3 sk (tab k (fun i => capOf D i * amb)) := o3.isS (fun _ => rfl) (by omega)
  have hskn : sk.n = k := by rw [isk.len, tab_length]
  refine iteB_intro (fun c => ?_) (fun c => ?_)
  · have hkn : k < D.length := by simpa using c
    obtain ⟨a, hpa, hr0, hr1⟩ := Doms.at (hd.ext e3) (x := k) (by omega) (by omega)
    refine ⟨sk, b3.rd (i := 3) rfl, by omega, by dsimp only; omega, unSome_mk hpa ⟨_, hr0, ?_⟩⟩
    simp only [Int.toNat_natCast]
    have hc := hv.cap k hkn
    have hdk := hv.dom k hkn
    have hnb := need_bound (L := L) (n := D.length) k L.length hv.lnk
    have hmb := mul_bound (a := capOf D k) (b := amb) (A := 16777216) (B := 16777216) (by omega) (by omega) (by omega) (by omega)
    rw [i64_in (n := capOf D k * amb) (by omega)]
    refine append_rowE (P := Try.prog) (st := t_sl_int64) (e := t_int64) (H := H3) (s := sk) (x := capOf D k * amb) (z := .int .i64 0) (sz := 1) (bytes := 8) (enc := encI .i64) (by kernel_rfl) (by kernel_rfl) rfl (by omega) (fun _ => rfl) (fun x u hu => by simp [encI] at hu; subst hu; rfl) o3 (by simp [maxLen]; omega) (by omega) (by omega) ?_
    intro s' H5 o5 hn5 m5
    have hblk := own_blk o3
    have z5 := m5.size
    have b5 := b3.mods m5 (fun h => by have := hblk _ h; omega)
    have e5 : Ext H H5 := Mods.ext e3 m5 (fun y hy => by have := hblk y hy; omega)
    refine ⟨b5.ok (i := 3) (n := 1) (by simp), letH_mk ?_⟩
    intro H6 h6
    have m6 : Mods [H1.size] H5 H6 := by rw [h6]; exact mods_wr_add (by simp)
    have b6 : Blk H6 H1.size t_ref38_Model [.slice dp D.length dc, .slice ls.p ls.n ls.c, .int .i64 amb, .slice s'.p s'.n s'.c, .int .i64 0] := by rw [h6]; exact b5.wr1
    clear h6
    have z6 := m6.size
    refine letV_mk ((k + 1 : Nat) : Int) (by rw [i64_in (by omega)]; simp) ⟨⟨Mods.ext e5 m6 (by simpa using z1), by omega, k + 1, s', rfl, by omega, b6, ?_⟩, by simp only [Int.toNat_natCast]; omega⟩
    rw [tab_succ]
    exact o5.mods m6 (fun a ha => by have := o5.new a ha; simp; omega)
  · have hkn : k = D.length := by simp at c; omega
    subst hkn
    obtain ⟨be, hp, hn, hlo, ib⟩ := own_iblk o3 hn1
    rw [hp, hn] at b3
    refine ⟨.inl ⟨hv, H1.size, be, rfl, fun hlt => ⟨⟨⟨dp, D.length, dc⟩, ls, sk.c, b3, hd.ext e3, hl.ext e3, fun a ha => ?_, fun a ha => ?_⟩, ib, by omega⟩, by omega, by omega⟩, e3⟩
    · have := hlt a (.inl ha)
      exact ⟨by omega, by omega, by omega, this.1⟩
    · have := hlt a (.inr ha)
      exact ⟨by omega, by omega, by omega, this.1⟩

theorem rBound_spec (H : Heap) (ds ls ps : Sl) (D : List Dom) (L : List Lnk) (amb : Int) (p : List Int) (hd : Doms H ds D) (hl : Lnks H ls L) (hll : L.length ≤ 1000) (hp : Ints .i64 H ps p) (hpl : p.length ≤ 9223372036854775807) :
    CallsH Try.prog n_ref38_Bound #[.slice ds.p ds.n ds.c, .slice ls.p ls.n ls.c, .int .i64 amb, .slice ps.p ps.n ps.c] H (BoundP D L amb p H) := by
  refine F_ref38_Bound_ok _ _ _ _ ?_
  unfold F_ref38_Bound
  refine (rvalid_spec H ds ls D L amb hd hl hll).mono ?_
  rintro v H1 ⟨⟨rfl, hv⟩ | ⟨rfl, hv⟩, e1⟩
  rotate_left
  · exact ⟨_, rfl, iteB_pos rfl ⟨.inr ⟨fun h => hv h.1, rfl⟩, e1⟩⟩
  refine ⟨_, rfl, iteB_neg rfl ?_⟩
  refine (rpowers_spec H1 ps p ds.n (hp.ext e1) hpl).mono ?_
  rintro v H2 ⟨rfl, rfl⟩
  rw [hd.len]
  refine ⟨_, rfl, iteB_intro (fun c => ?_) (fun c => ?_)⟩
  · have c' : powOk p D.length = false := by simpa using c
    exact ⟨.inr ⟨fun h => absurd h.2 (by rw [c']; decide), rfl⟩, e1⟩
  have hok : powOk p D.length = true := by simpa using c
  have hps := powOk_iff.1 hok
  have hn16 := hv.n16
  have hbr : ∀ k, k ≤ D.length → 0 ≤ bndF D (fun i => p.getD i 0) k ∧ bndF D (fun i => p.getD i 0) k ≤ 33554432 := fun k hk => by
    have := bnd_range (D := D) (p := fun i => p.getD i 0) (B := 33554432) (by omega) k (fun i hi => by
      have h1 := hv.dom i (by omega)
      have h2 := hps.2 i (by omega)
      omega)
    exact ⟨this.1, this.2.1⟩
  refine ⟨fun g x H' => H' = H2 ∧ ∃ k : Nat, x = k ∧ k ≤ D.length ∧ g = bndF D (fun i => p.getD i 0) k, fun _ x _ => D.length - x.toNat, ⟨rfl, 0, rfl, Nat.zero_le _, rfl⟩, ?_⟩
  rintro g x H3 ⟨rfl, k, rfl, hk, rfl⟩
  unfold F_ref38_Bound_r1
  have hbk := hbr k hk
  have ha0 := hv.amb0
  have ha1 := hv.amb1
  rw [hd.len]
  refine iteB_intro (fun c => ?_) (fun c => ?_)
  · have hkn : k < D.length := by simpa using c
    obtain ⟨a, hpa, hr0, hr1⟩ := Doms.at (hd.ext e1) (x := k) (by omega) (by omega)
    obtain ⟨a3, hpp, hrp⟩ := Ints.at (hp.ext e1) (x := k) (by omega) (by omega)
    simp only [Int.toNat_natCast] at hrp hr1
    have h1 := hv.dom k hkn
    have h2 := hps.2 k hkn
    have hc := ceil_range (D := D) (p := fun i => p.getD i 0) (i := k) h1.1 h2.1
    refine ⟨by omega, by rw [hp.len]; omega, unSome_mk hpp ⟨_, hrp, by omega, by omega, unSome_mk hpa ⟨_, hr1, by omega, by omega, unSome_mk hpa ⟨_, hr1, by omega, ?_⟩⟩⟩⟩
    rw [i64_in (n := p.getD k 0 + ambOf D k) (by omega), i64_in (n := p.getD k 0 + ambOf D k - 1) (by omega), Int.tdiv_eq_ediv_of_nonneg (by omega)]
    rw [show (p.getD k 0 + ambOf D k - 1) / ambOf D k = ceilOf D (fun i => p.getD i 0) k from rfl]
    rw [i64_in (n := ceilOf D (fun i => p.getD i 0) k) (by omega)]
    exact letV_mk _ rfl (letV_mk ((k + 1 : Nat) : Int) (by rw [i64_in (by omega)]; simp) ⟨⟨rfl, k + 1, rfl, by omega, rfl⟩, by simp only [Int.toNat_natCast]; omega⟩)
  · have hkn : k = D.length := by simp at c; omega
    subst hkn
    exact letV_mk _ (i64_in (by omega)) ⟨.inl ⟨hv, hok, rfl⟩, e1⟩

end Go.Proofs.Ytenpfhfhjpipaaa
