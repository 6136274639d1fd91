/-
  Contracts of the heat model's Bound and Copy, over the shallow readings.
-/
import Derived.Test.YtenpfhfhjpipaaaC8
namespace Go.Proofs.Ytenpfhfhjpipaaa
open Go.Eng Go.Heat

variable {Q : Nat → Prop}

def ceilOf (D : List Dom) (p : Nat → Int) (i : Nat) : Int := (p i + ambOf D i - 1) / ambOf D i
def bndF (D : List Dom) (p : Nat → Int) : Nat → Int
  | 0 => 0
  | k + 1 => if ceilOf D p k > bndF D p k then ceilOf D p k else bndF D p k

theorem ceil_range {D : List Dom} {p : Nat → Int} {i : Nat} (ha : 1 ≤ ambOf D i) (hp : 0 ≤ p i) : 0 ≤ ceilOf D p i ∧ ceilOf D p i ≤ p i + ambOf D i ∧ p i ≤ ambOf D i * ceilOf D p i := by
  refine ⟨Int.ediv_nonneg (by omega) (by omega), ?_, ?_⟩
  · have := Int.ediv_le_self (a := p i + ambOf D i - 1) (ambOf D i) (by omega)
    unfold ceilOf
    omega
  · have : p i + ambOf D i - 1 < ambOf D i * ((p i + ambOf D i - 1) / ambOf D i) + ambOf D i := Int.lt_mul_ediv_self_add (by omega)
    unfold ceilOf
    omega

theorem bnd_range {D : List Dom} {p : Nat → Int} {B : Int} (hB : 0 ≤ B) : ∀ n, (∀ i, i < n → 1 ≤ ambOf D i ∧ 0 ≤ p i ∧ p i + ambOf D i ≤ B) → 0 ≤ bndF D p n ∧ bndF D p n ≤ B ∧ ∀ i, i < n → ceilOf D p i ≤ bndF D p n := by
  intro n
  induction n with
  | zero => intro _; exact ⟨by simp [bndF], by simpa [bndF] using hB, fun i hi => by omega⟩
  | succ n ih =>
    intro h
    obtain ⟨h1, h2, h3⟩ := ih (fun i hi => h i (by omega))
    have hn := h n (by omega)
    have hc := ceil_range (D := D) (p := p) (i := n) hn.1 hn.2.1
    simp only [bndF]
    split
    · refine ⟨by omega, by omega, fun i hi => ?_⟩
      by_cases e : i = n
      · subst e; omega
      · have := h3 i (by omega); omega
    · refine ⟨by omega, by omega, fun i hi => ?_⟩
      by_cases e : i = n
      · subst e; omega
      · exact h3 i (by omega)

def BoundP (D : List Dom) (L : List Lnk) (amb : Int) (p : List Int) (H : Heap) (v : Value) (H' : Heap) : Prop :=
  ((VS D L amb ∧ powOk p D.length = true ∧ v = .tuple #[.int .i64 (amb + bndF D (fun i => p.getD i 0) D.length), .int .i64 0]) ∨ (¬ (VS D L amb ∧ powOk p D.length = true) ∧ v = .tuple #[.int .i64 0, .int .i64 1])) ∧ Ext H H'

theorem Bound_spec (H : Heap) (ds ls ps : Sl) (D : List Dom) (L : List Lnk) (amb : Int) (p : List Int) (hd : Doms H ds D) (hl : Lnks H ls L) (hll : L.length ≤ 1000) (hp : Ints .i64 H ps p) (hpl : p.length ≤ 9223372036854775807) :
    CallsH Try.prog n_heat_Bound #[.slice ds.p ds.n ds.c, .slice ls.p ls.n ls.c, .int .i64 amb, .slice ps.p ps.n ps.c] H (BoundP D L amb p H) := by
  refine F_heat_Bound_ok _ _ _ _ ?_
  unfold F_heat_Bound
  refine (valid_spec H ds ls D L amb hd hl hll).mono ?_
  rintro v H1 ⟨⟨rfl, hv⟩ | ⟨rfl, hv⟩, e1⟩
  rotate_left
  · exact ⟨_, rfl, iteB_pos rfl ⟨.inr ⟨fun h => hv h.1, rfl⟩, e1⟩⟩
  refine ⟨_, rfl, iteB_neg rfl ?_⟩
  refine (validPower_spec H1 ps p ds.n (hp.ext e1) hpl).mono ?_
  rintro v H2 ⟨rfl, rfl⟩
  rw [hd.len]
  refine ⟨_, rfl, iteB_intro (fun c => ?_) (fun c => ?_)⟩
  · have c' : powOk p D.length = false := by simpa using c
    exact ⟨.inr ⟨fun h => absurd h.2 (by rw [c']; decide), rfl⟩, e1⟩
  have hok : powOk p D.length = true := by simpa using c
  have hps := powOk_iff.1 hok
  have hn16 := hv.n16
  have hbr : ∀ k, k ≤ D.length → 0 ≤ bndF D (fun i => p.getD i 0) k ∧ bndF D (fun i => p.getD i 0) k ≤ 33554432 := fun k hk => by
    have := bnd_range (D := D) (p := fun i => p.getD i 0) (B := 33554432) (by omega) k (fun i hi => by
      have h1 := hv.dom i (by omega)
      have h2 := hps.2 i (by omega)
      omega)
    exact ⟨this.1, this.2.1⟩
  refine ⟨fun g x H' => Ext H H' ∧ ∃ k : Nat, x = k ∧ k ≤ D.length ∧ g = bndF D (fun i => p.getD i 0) k, fun _ x _ => D.length - x.toNat, ⟨e1, 0, rfl, Nat.zero_le _, rfl⟩, ?_⟩
  rintro g x H3 ⟨e3, k, rfl, hk, rfl⟩
  unfold F_heat_Bound_r1
  have hbk := hbr k hk
  have ha0 := hv.amb0
  have ha1 := hv.amb1
  rw [hd.len]
  refine iteB_intro (fun c => ?_) (fun c => ?_)
  · have hkn : k < D.length := by simpa using c
    obtain ⟨a, hpa, hr0, hr1⟩ := Doms.at (hd.ext e3) (x := k) (by omega) (by omega)
    refine ⟨by omega, by omega, unSome_mk hpa ⟨_, hr0, _, hr1, local_mk (by simp) (by simp) ?_⟩⟩
    intro H5 e5 z5 hb5
    simp only [Int.toNat_natCast] at hb5 ⊢
    obtain ⟨a3, hpp, hrp⟩ := Ints.at (hp.ext (e3.trans e5)) (x := k) (by omega) (by omega)
    simp only [Int.toNat_natCast] at hrp
    have h1 := hv.dom k hkn
    have h2 := hps.2 k hkn
    have hc := ceil_range (D := D) (p := fun i => p.getD i 0) (i := k) h1.1 h2.1
    refine ⟨by omega, by rw [hp.len]; omega, unSome_mk hpp ⟨_, hrp, _, hb5.rd (i := 1) rfl, _, hb5.rd (i := 1) rfl, by omega, ?_⟩⟩
    rw [i64_in (n := p.getD k 0 + ambOf D k) (by omega), i64_in (n := p.getD k 0 + ambOf D k - 1) (by omega), Int.tdiv_eq_ediv_of_nonneg (by omega)]
    rw [show (p.getD k 0 + ambOf D k - 1) / ambOf D k = ceilOf D (fun i => p.getD i 0) k from rfl]
    rw [i64_in (n := ceilOf D (fun i => p.getD i 0) k) (by omega)]
    rw [show IntKind.i64.wrap ((k : Int) + 1) = ((k + 1 : Nat) : Int) by rw [i64_in (by omega)]; simp]
    exact letV_mk _ rfl ⟨⟨e3.trans e5, k + 1, rfl, by omega, rfl⟩, by simp only [Int.toNat_natCast]; omega⟩
  · have hkn : k = D.length := by simp at c; omega
    subst hkn
    exact letV_mk _ (i64_in (by omega)) ⟨.inl ⟨hv, hok, rfl⟩, e3⟩

/-! ### Copy -/

def CloneO (l : List Int) (H : Heap) (v : Value) (H' : Heap) : Prop := ∃ s' : Sl, v = .slice s'.p s'.n s'.c ∧ Own H.size t_int64 1 H' s' (l.flatMap (encI .i64)) ∧ Ext H H'

theorem CloneI_spec (H : Heap) (s : Sl) (l : List Int) (h : Ints .i64 H s l) (hn : s.n ≤ 1000000) :
    CallsH Try.prog n_slices_Clone_sl_int64_int64 #[.slice s.p s.n s.c] H (CloneO l H) := by
  refine F_slices_Clone_sl_int64_int64_ok _ ?_
  exact clone_vc (P := Try.prog) (st := t_sl_int64) (e := t_int64) (R := CloneO l H) (z := .int .i64 0) (sz := 1) (bytes := 8) (enc := encI .i64) (by kernel_rfl) (by kernel_rfl) rfl (by omega) (fun _ => rfl) (fun x u hu => by simp [encI] at hu; subst hu; rfl) h (by simp [maxLen]; omega) (by omega)
    (fun s' H' ho _ he => ⟨s', rfl, ho, he⟩)

theorem own_iblk {lo : Nat} {H : Heap} {s : Sl} {n : Nat} {E : Nat → Int} (h : Own lo t_int64 1 H s ((tab n E).flatMap (encI .i64))) (hn : 1 ≤ n) : ∃ b, s.p = some ⟨b, 0, none⟩ ∧ s.n = n ∧ lo ≤ b ∧ IBlk .i64 H b t_int64 n E := by
  obtain ⟨h1, h2⟩ := h.cases
  rw [flat_len (enc := encI .i64) (sz := 1) (fun _ => rfl), tab_length] at h1
  have hsn : s.n = n := by omega
  rcases h2 with ⟨_, h3⟩ | ⟨g, cur, hp, hg, hc, hnc, hsz, htk⟩
  · have := congrArg List.length h3
    rw [flat_len (enc := encI .i64) (sz := 1) (fun _ => rfl), tab_length] at this
    simp at this
    omega
  · refine ⟨g, hp, hsn, hg, cur.toList.drop n, ?_⟩
    unfold Blk
    rw [hc]
    have : cur = ((tab n E).map (Value.int .i64) ++ cur.toList.drop n).toArray := by
      apply Array.toList_inj.1
      rw [← flatMap_encI, ← htk, hsn, Nat.mul_one]
      simp
    rw [← this]

def CopyP (D : List Dom) (L : List Lnk) (amb : Int) (E : Nat → Int) (rel : Int) (H : Heap) (v : Value) (H' : Heap) : Prop :=
  ∃ b be : Nat, v = .pointer (some ⟨b, 0, none⟩) ∧ HM t_heat_Model (fun k => H.size ≤ k) H' b be D L amb E rel ∧ H.size ≤ b ∧ H.size ≤ be ∧ Ext H H'

theorem Copy_spec (b be : Nat) (D : List Dom) (L : List Lnk) (amb : Int) (E : Nat → Int) (rel : Int) (H : Heap) (h : HM t_heat_Model Q H b be D L amb E rel) (hv : VS D L amb) (hll : L.length ≤ 1000) :
    CallsH Try.prog n_heat_Model_Copy #[.pointer (some ⟨b, 0, none⟩)] H (CopyP D L amb E rel H) := by
  obtain ⟨⟨d, l, ce, g1, g2, g3, g4, g5⟩, g6, g7⟩ := h
  have hn1 := hv.n1
  have hn16 := hv.n16
  have hdn : d.n = D.length := g2.len
  have hln : l.n = L.length := g3.len
  have hbl := g1.lt
  refine F_heat_Model_Copy_ok _ ?_
  unfold F_heat_Model_Copy
  refine ⟨d, g1.rd0 rfl, l, g1.rd (i := 1) rfl, amb, g1.rd (i := 2) rfl, ⟨some ⟨be, 0, none⟩, D.length, ce⟩, g1.rd (i := 3) rfl, rel, g1.rd (i := 4) rfl, local_mk (by simp) (by simp) ?_⟩
  intro H2 e2 z2 b2
  refine ⟨d, (g1.ext e2).rd0 rfl, ?_⟩
  refine (CloneD_spec H2 d D (g2.ext e2) (by omega)).mono ?_
  rintro v H3 ⟨d', rfl, id', nd', ld', e3⟩
  have z3 := e3.size
  have b3 := b2.ext e3
  refine ⟨d', rfl, b3.ok0 (by simp), letH_mk ?_⟩
  intro H4 h4
  have m4 : Mods [H.size] H3 H4 := by rw [h4]; exact Mods.wrs (by simp)
  have b4 : Blk H4 H.size t_heat_Model [.slice d'.p d'.n d'.c, .slice l.p l.n l.c, .int .i64 amb, .slice (some ⟨be, 0, none⟩) D.length ce, .int .i64 rel] := by rw [h4]; exact b3.wr
  clear h4
  have z4 := m4.size
  have e4 : Ext H H4 := Mods.ext (e2.trans e3) m4 (by simp)
  have id4 := id'.mods m4 (fun a ha => by have := nd' a ha; simp; omega)
  refine ⟨l, (g1.ext e4).rd (i := 1) rfl, ?_⟩
  refine (CloneL_spec H4 l L (g3.ext e4) (by omega)).mono ?_
  rintro v H5 ⟨l', rfl, il', nl', ll', e5⟩
  have z5 := e5.size
  have b5 := b4.ext e5
  refine ⟨l', rfl, b5.ok (i := 1) (n := 1) (by simp), letH_mk ?_⟩
  intro H6 h6
  have m6 : Mods [H.size] H5 H6 := by rw [h6]; exact mods_wr_add (by simp)
  have b6 : Blk H6 H.size t_heat_Model [.slice d'.p d'.n d'.c, .slice l'.p l'.n l'.c, .int .i64 amb, .slice (some ⟨be, 0, none⟩) D.length ce, .int .i64 rel] := by rw [h6]; exact b5.wr1
  clear h6
  have z6 := m6.size
  have e6 : Ext H H6 := Mods.ext (e4.trans e5) m6 (by simp)
  have id6 := (id4.ext e5).mods m6 (fun a ha => by have := nd' a ha; simp; omega)
  have il6 := il'.mods m6 (fun a ha => by have := nl' a ha; simp; omega)
  refine ⟨⟨some ⟨be, 0, none⟩, D.length, ce⟩, (g1.ext e6).rd (i := 3) rfl, ?_⟩
  refine (CloneI_spec H6 _ (tab D.length E) ((g6.ext e6).ints ce) (by dsimp only; omega)).mono ?_
  rintro v H7 ⟨s', rfl, os', e7⟩
  obtain ⟨be', hp', hn', hlo', ib7⟩ := own_iblk os' hn1
  have z7 := e7.size
  have b7 := b6.ext e7
  refine ⟨s', rfl, b7.ok (i := 3) (n := 1) (by simp), letH_mk ?_⟩
  intro H8 h8
  have m8 : Mods [H.size] H7 H8 := by rw [h8]; exact mods_wr_add (by simp)
  have b8 : Blk H8 H.size t_heat_Model [.slice d'.p d'.n d'.c, .slice l'.p l'.n l'.c, .int .i64 amb, .slice s'.p s'.n s'.c, .int .i64 rel] := by rw [h8]; exact b7.wr1
  clear h8
  have z8 := m8.size
  rw [hp', hn'] at b8
  refine ⟨H.size, be', rfl, ⟨⟨d', l', s'.c, b8, (id6.ext e7).mods m8 (fun a ha => by have := nd' a ha; simp; omega), (il6.ext e7).mods m8 (fun a ha => by have := nl' a ha; simp; omega), fun a ha => ?_, fun a ha => ?_⟩, ib7.mods m8 (by simp; omega), by omega⟩, by omega, by omega, Mods.ext (e6.trans e7) m8 (by simp)⟩
  · have := nd' a ha
    have := ld' a ha
    omega
  · have := nl' a ha
    have := ll' a ha
    omega

end Go.Proofs.Ytenpfhfhjpipaaa
