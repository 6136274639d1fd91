/-
  The contract of the heat model's 'valid', over the shallow reading.
-/
import Derived.Test.YtiikkapdchodkaaC2
namespace Go.Proofs.Ytiikkapdchodkaa
open Go.Eng Go.Heat

def same2 (L : List Lnk) (m k : Nat) : Prop := (lA L m = lA L k ∧ lB L m = lB L k) ∨ (lA L m = lB L k ∧ lB L m = lA L k)

structure LnkOk (n : Nat) (L : List Lnk) (k : Nat) : Prop where
  a0 : 0 ≤ lA L k
  a1 : lA L k < n
  b0 : 0 ≤ lB L k
  b1 : lB L k < n
  ne : lA L k ≠ lB L k
  c0 : 1 ≤ lC L k
  c1 : lC L k ≤ 16777216
  once : ∀ m, m < k → ¬ same2 L m k

/-- What the first links need of domain 'i'. -/
def need (L : List Lnk) : Nat → Nat → Int
  | 0, _ => 0
  | j + 1, i => need L j i + ((if (lA L j).toNat = i then lC L j else 0) + (if (lB L j).toNat = i then lC L j else 0))

structure VS (D : List Dom) (L : List Lnk) (amb : Int) : Prop where
  n1 : 1 ≤ D.length
  n16 : D.length ≤ 16
  amb0 : -16777216 ≤ amb
  amb1 : amb ≤ 16777216
  dom : ∀ i, i < D.length → 1 ≤ ambOf D i ∧ ambOf D i ≤ 16777216
  lnk : ∀ k, k < L.length → LnkOk D.length L k
  cap : ∀ i, i < D.length → ambOf D i + need L L.length i ≤ capOf D i ∧ capOf D i ≤ 16777216

theorem need_bound {L : List Lnk} {n : Nat} (i : Nat) : ∀ j, (∀ k, k < j → LnkOk n L k) → 0 ≤ need L j i ∧ need L j i ≤ 16777216 * j := by
  intro j
  induction j with
  | zero => intro _; simp [need]
  | succ j ih =>
    intro h
    have h1 := ih (fun k hk => h k (by omega))
    have h2 := h j (by omega)
    obtain ⟨a0, a1, b0, b1, ne, c0, c1, _⟩ := h2
    simp only [need]
    split <;> split <;> omega

def ValidPost (D : List Dom) (L : List Lnk) (amb : Int) (H : Heap) (v : Value) (H' : Heap) : Prop :=
  ((v = .bool true ∧ VS D L amb) ∨ (v = .bool false ∧ ¬ VS D L amb)) ∧ Ext H H'

theorem ValidPost.no {D : List Dom} {L : List Lnk} {amb : Int} {H H' : Heap} (h : ¬ VS D L amb) (he : Ext H H') : ValidPost D L amb H (.bool false) H' := ⟨.inr ⟨rfl, h⟩, he⟩
theorem ValidPost.yes {D : List Dom} {L : List Lnk} {amb : Int} {H H' : Heap} (h : VS D L amb) (he : Ext H H') : ValidPost D L amb H (.bool true) H' := ⟨.inl ⟨rfl, h⟩, he⟩

set_option maxRecDepth 4000 in
theorem valid_spec (H : Heap) (ds ls : Sl) (D : List Dom) (L : List Lnk) (amb : Int) (hd : Doms H ds D) (hl : Lnks H ls L) (hll : L.length ≤ 1000) :
    CallsH Try.prog n_heat_valid #[.slice ds.p ds.n ds.c, .slice ls.p ls.n ls.c, .int .i64 amb] H (ValidPost D L amb H) := by
  refine F_heat_valid_ok _ _ _ ?_
  unfold F_heat_valid
  rw [hd.len]
  refine iteB_intro (fun c => .no (fun h => ?_) (.refl _)) (fun c1 => iteB_intro (fun c => .no (fun h => ?_) (.refl _)) (fun c2 => iteB_intro (fun c => .no (fun h => ?_) (.refl _)) (fun c3 => iteB_intro (fun c => .no (fun h => ?_) (.refl _)) (fun c4 => ?_))))
  · have := h.n1; simp at c; omega
  · have := h.n16; simp at c; omega
  · have := h.amb0; simp at c; omega
  · have := h.amb1; simp at c; omega
  have hn1 : 1 ≤ D.length := by simp at c1; omega
  have hn16 : D.length ≤ 16 := by simp at c2; omega
  have ha0 : -16777216 ≤ amb := by simpa using c3
  have ha1 : amb ≤ 16777216 := by simpa using c4
  refine ⟨by omega, by omega, by omega, letH_mk ?_⟩
  rintro H1 rfl
  have hto : ((D.length : Int).toNat) = D.length := by simp
  rw [hto]
  have z1 := IBlk.zero (k := .i64) H t_int64 D.length
  refine ⟨fun x H' => Ext H H' ∧ ∃ k : Nat, x = k ∧ k ≤ D.length ∧ (∀ i, i < k → 1 ≤ ambOf D i ∧ ambOf D i ≤ 16777216) ∧ IBlk .i64 H' H.size t_int64 D.length (fun i => if i < k then ambOf D i else 0), fun x _ => D.length - x.toNat,
    ⟨Ext.push _ _, 0, rfl, Nat.zero_le _, fun i hi => by omega, z1.congr (fun i _ => by simp)⟩, ?_⟩
  rintro x H2 ⟨e2, k, rfl, hk, hdk, hb⟩
  unfold F_heat_valid_r3
  rw [hd.len]
  refine iteB_intro (fun c => ?_) (fun c => ?_)
  · have hkn : k < D.length := by simpa using c
    obtain ⟨a, hpa, hr0, hr1⟩ := Doms.at (hd.ext e2) (x := k) (by omega) (by omega)
    refine ⟨by omega, by omega, unSome_mk hpa ⟨_, hr0, _, hr1, ?_⟩⟩
    simp only [Int.toNat_natCast]
    refine local_mk (by simp) (by simp) ?_
    intro H4 e4 z4 hb4
    refine ⟨_, hb4.rd (i := 1) rfl, iteB_intro (fun c => .no (fun h => ?_) (e2.trans e4)) (fun d1 => ?_)⟩
    · have := h.dom k hkn; simp at c; omega
    refine ⟨_, hb4.rd (i := 1) rfl, iteB_intro (fun c => .no (fun h => ?_) (e2.trans e4)) (fun d2 => ?_)⟩
    · have := h.dom k hkn; simp at c; omega
    refine ⟨_, hb4.rd (i := 1) rfl, by omega, by simpa using hkn, (hb.ext e4).ok hkn, letH_mk ?_⟩
    rintro H5 rfl
    rw [show IntKind.i64.wrap ((k : Int) + 1) = ((k + 1 : Nat) : Int) by rw [i64_in (by omega)]; simp]
    refine ⟨⟨Mods.ext (e2.trans e4) (mods_wr_add (S := [H.size]) (by simp)) (by simp), k + 1, rfl, by omega, fun i hi => ?_, ?_⟩, by simp only [Int.toNat_natCast]; omega⟩
    · by_cases e : i = k
      · subst e; simp at d1 d2; omega
      · exact hdk i (by omega)
    · refine ((hb.ext e4).wr hkn _).congr (fun i hi => ?_)
      by_cases e : i = k
      · subst e; rw [upd_same, if_pos (by omega)]
      · rw [upd_ne e]
        by_cases e2 : i < k
        · rw [if_pos e2, if_pos (by omega)]
        · rw [if_neg e2, if_neg (by omega)]
  · have hkn : k = D.length := by simp at c; omega
    subst hkn
    refine letH_mk ?_
    rintro H6 rfl
    have e6 := fun o => Ext.push H2 o
    have hlt2 := hb.lt
    refine ⟨fun x H' => Ext H H' ∧ ∃ j : Nat, x = j ∧ j ≤ L.length ∧ (∀ m, m < j → LnkOk D.length L m) ∧ IBlk .i64 H' H.size t_int64 D.length (fun i => ambOf D i + need L j i) ∧
      ∃ g : Nat → Bool, VB H' H2.size t_16_16_bool 256 (fun i => .bool (g i)) ∧ ∀ a b : Nat, a < 16 → b < 16 → (g (a * 16 + b) = true ↔ ∃ m, m < j ∧ (((lA L m).toNat = a ∧ (lB L m).toNat = b) ∨ ((lA L m).toNat = b ∧ (lB L m).toNat = a))),
      fun x _ => L.length - x.toNat, ⟨e2.trans (e6 _), 0, rfl, Nat.zero_le _, fun m hm => by omega, ?_, fun _ => false, ?_, ?_⟩, ?_⟩
    · refine (hb.ext (e6 _)).congr (fun i hi => ?_)
      rw [if_pos hi]; simp [need]
    · exact ⟨[], Blk.new H2 t_16_16_bool (tab 256 (fun _ => Value.bool false) ++ [])⟩
    · intro a b _ _; simp
    rintro x H7 ⟨e7, j, rfl, hj, hlk, hbn, g, hbg, hg⟩
    unfold F_heat_valid_r2
    rw [hd.len]
    refine iteB_intro (fun c => ?_) (fun c => ?_)
    · rw [hl.len] at c
      have hjn : j < L.length := by simpa using c
      obtain ⟨a, hpa, hr0, hr1, hr2⟩ := Lnks.at (hl.ext e7) (x := j) (by omega) (by omega)
      refine ⟨by omega, by rw [hl.len]; omega, unSome_mk hpa ⟨_, hr0, _, hr1, _, hr2, ?_⟩⟩
      simp only [Int.toNat_natCast]
      refine local_mk (by simp) (by simp) ?_
      intro H9 e9 z9 hb9
      have eh := e7.trans e9
      have rA : rd H9 (⟨H7.size, 0, none⟩ : Addr) = some (.int .i64 (lA L j)) := hb9.rd0 rfl
      have rB : rd H9 ((⟨H7.size, 0, none⟩ : Addr).add 1) = some (.int .i64 (lB L j)) := hb9.rd (i := 1) rfl
      have rC : rd H9 ((⟨H7.size, 0, none⟩ : Addr).add 2) = some (.int .i64 (lC L j)) := hb9.rd (i := 2) rfl
      have no : ¬ LnkOk D.length L j → ValidPost D L amb H (.bool false) H9 :=
        fun hno => .no (fun h => hno (h.lnk j hjn)) eh
      refine ⟨_, rA, iteB_intro (fun c => no fun h => ?_) (fun d1 => ⟨_, rA, iteB_intro (fun c => no fun h => ?_) (fun d2 => ⟨_, rB, iteB_intro (fun c => no fun h => ?_) (fun d3 => ⟨_, rB, iteB_intro (fun c => no fun h => ?_) (fun d4 => ⟨_, rA, _, rB, iteB_intro (fun c => no fun h => ?_) (fun d5 => ⟨_, rC, iteB_intro (fun c => no fun h => ?_) (fun d6 => ⟨_, rC, iteB_intro (fun c => no fun h => ?_) (fun d7 => ?_)⟩)⟩)⟩)⟩)⟩)⟩)⟩
      · have := h.a0; simp at c; omega
      · have := h.a1; simp at c; omega
      · have := h.b0; simp at c; omega
      · have := h.b1; simp at c; omega
      · have := h.ne; simp at c; omega
      · have := h.c0; simp at c; omega
      · have := h.c1; simp at c; omega
      have a0 : 0 ≤ lA L j := by simpa using d1
      have a1 : lA L j < D.length := by simpa using d2
      have b0 : 0 ≤ lB L j := by simpa using d3
      have b1 : lB L j < D.length := by simpa using d4
      have ne : lA L j ≠ lB L j := by simpa using d5
      have c0 : 1 ≤ lC L j := by simp at d6; omega
      have cM : lC L j ≤ 16777216 := by simpa using d7
      have hA : (lA L j).toNat < D.length := by omega
      have hB : (lB L j).toNat < D.length := by omega
      have hAB : (lA L j).toNat ≠ (lB L j).toNat := by omega
      have hg9 := hbg.ext e9
      have i1 : (lA L j).toNat * 16 + (lB L j).toNat * 1 < 256 := by omega
      have i2 : (lB L j).toNat * 16 + (lA L j).toNat * 1 < 256 := by omega
      refine ⟨_, rA, _, rB, a0, by omega, b0, by omega, ?_⟩
      rw [add_add]
      refine ⟨_, hg9.rd i1, iteB_intro (fun c => no fun h => ?_) (fun d8 => ?_)⟩
      · rw [Nat.mul_one] at c
        obtain ⟨m, hm, hor⟩ := (hg _ _ (by omega) (by omega)).1 c
        have hmk := hlk m hm
        have q1 := hmk.a0
        have q2 := hmk.b0
        refine h.once m hm ?_
        rcases hor with ⟨h1, h2⟩ | ⟨h1, h2⟩
        · exact .inl ⟨by omega, by omega⟩
        · exact .inr ⟨by omega, by omega⟩
      have hok : LnkOk D.length L j := by
        refine ⟨a0, a1, b0, b1, ne, c0, cM, fun m hm hsm => ?_⟩
        have hmk := hlk m hm
        have q1 := hmk.a0
        have q2 := hmk.b0
        rw [Nat.mul_one] at d8
        have : g ((lA L j).toNat * 16 + (lB L j).toNat) = true := by
          refine (hg _ _ (by omega) (by omega)).2 ⟨m, hm, ?_⟩
          rcases hsm with ⟨h1, h2⟩ | ⟨h1, h2⟩
          · exact .inl ⟨by rw [h1], by rw [h2]⟩
          · exact .inr ⟨by rw [h1], by rw [h2]⟩
        rw [this] at d8
        cases d8
      refine ⟨_, rA, _, rB, a0, by omega, b0, by omega, ?_⟩
      rw [add_add]
      refine ⟨hg9.ok (m := 1) (by omega), letH_mk ?_⟩
      rintro H10 rfl
      have m10 : Mods [H2.size] H9 (wrs H9 ((⟨H2.size, 0, none⟩ : Addr).add ((lA L j).toNat * 16 + (lB L j).toNat * 1)) [.bool true]) := mods_wr_add (by simp)
      have hg10 := hg9.wr i1 (.bool true)
      have l7 := hbg.lt
      have hb10 := hb9.mods m10 (by simp; omega)
      refine ⟨_, hb10.rd (i := 1) rfl, _, hb10.rd0 rfl, b0, by omega, a0, by omega, ?_⟩
      rw [add_add]
      refine ⟨hg10.ok (m := 1) (by omega), letH_mk ?_⟩
      rintro H11 rfl
      generalize hH10 : wrs H9 ((⟨H2.size, 0, none⟩ : Addr).add ((lA L j).toNat * 16 + (lB L j).toNat * 1)) [.bool true] = H10 at *
      have m11 : Mods [H2.size] H10 (wrs H10 ((⟨H2.size, 0, none⟩ : Addr).add ((lB L j).toNat * 16 + (lA L j).toNat * 1)) [.bool true]) := mods_wr_add (by simp)
      have hg11 := hg10.wr i2 (.bool true)
      have hb11 := hb10.mods m11 (by simp; omega)
      generalize hH11 : wrs H10 ((⟨H2.size, 0, none⟩ : Addr).add ((lB L j).toNat * 16 + (lA L j).toNat * 1)) [.bool true] = H11 at *
      have hn11 := ((hbn.ext e9).mods m10 (by simp; omega)).mods m11 (by simp; omega)
      have nb := fun i => need_bound i j hlk
      have nbA := nb (lA L j).toNat
      have nbB := nb (lB L j).toNat
      have dA := hdk _ hA
      have dB := hdk _ hB
      refine ⟨_, hb11.rd0 rfl, a0, by simpa using a1, _, hn11.rd hA, _, hb11.rd (i := 2) rfl, a0, by simpa using a1, hn11.ok hA, letH_mk ?_⟩
      rintro H12 rfl
      rw [i64_in (n := ambOf D (lA L j).toNat + need L j (lA L j).toNat + lC L j) (by omega)]
      have m12 : Mods [H.size] H11 (wrs H11 ((⟨H.size, 0, none⟩ : Addr).add ((lA L j).toNat * 1)) [.int .i64 (ambOf D (lA L j).toNat + need L j (lA L j).toNat + lC L j)]) := mods_wr_add (by simp)
      have hn12 := hn11.wr hA (ambOf D (lA L j).toNat + need L j (lA L j).toNat + lC L j)
      have z2 := e2.size
      have z7 := e7.size
      have hb12 := hb11.mods m12 (by simp; omega)
      have hg12 := hg11.mods m12 (by simp; omega)
      generalize hH12 : wrs H11 ((⟨H.size, 0, none⟩ : Addr).add ((lA L j).toNat * 1)) [.int .i64 (ambOf D (lA L j).toNat + need L j (lA L j).toNat + lC L j)] = H12 at *
      have hrB := hn12.rd hB
      rw [upd_ne (fun e => hAB e.symm)] at hrB
      refine ⟨_, hb12.rd (i := 1) rfl, b0, by simpa using b1, _, hrB, _, hb12.rd (i := 2) rfl, b0, by simpa using b1, hn12.ok hB, letH_mk ?_⟩
      rintro H13 rfl
      rw [i64_in (n := ambOf D (lB L j).toNat + need L j (lB L j).toNat + lC L j) (by omega)]
      have m13 : Mods [H.size] H12 (wrs H12 ((⟨H.size, 0, none⟩ : Addr).add ((lB L j).toNat * 1)) [.int .i64 (ambOf D (lB L j).toNat + need L j (lB L j).toNat + lC L j)]) := mods_wr_add (by simp)
      have hn13 := hn12.wr hB (ambOf D (lB L j).toNat + need L j (lB L j).toNat + lC L j)
      have hg13 := hg12.mods m13 (by simp; omega)
      rw [show IntKind.i64.wrap ((j : Int) + 1) = ((j + 1 : Nat) : Int) by rw [i64_in (by omega)]; simp]
      have mall : Mods [H2.size, H.size] H9 _ := (((m10.mono (by simp)).trans (m11.mono (by simp))).trans (m12.mono (by simp))).trans (m13.mono (by simp))
      refine ⟨⟨Mods.ext eh mall (by intro x hx; simp at hx; omega), j + 1, rfl, by omega, fun m hm => ?_, ?_, _, (hg13.congr (g := fun i => .bool (if i = (lB L j).toNat * 16 + (lA L j).toNat * 1 ∨ i = (lA L j).toNat * 16 + (lB L j).toNat * 1 then true else g i)) (fun i hi => ?_)), ?_⟩, by simp only [Int.toNat_natCast]; omega⟩
      · by_cases e : m = j
        · subst e; exact hok
        · exact hlk m (by omega)
      · refine hn13.congr (fun i hi => ?_)
        simp only [need]
        by_cases eB' : i = (lB L j).toNat
        · subst eB'
          rw [upd_same, if_neg hAB, if_pos rfl]
          omega
        · have eB2 : ¬ (lB L j).toNat = i := fun e => eB' e.symm
          rw [upd_ne eB']
          by_cases eA' : i = (lA L j).toNat
          · subst eA'
            simp only [upd_same, if_true, eB2, if_false]
            omega
          · have eA2 : ¬ (lA L j).toNat = i := fun e => eA' e.symm
            simp only [upd_ne eA', eA2, eB2, if_false]
            omega
      · by_cases h1 : i = (lB L j).toNat * 16 + (lA L j).toNat * 1
        · rw [if_pos (.inl h1)]; unfold upd; rw [if_pos h1]
        · by_cases h2 : i = (lA L j).toNat * 16 + (lB L j).toNat * 1
          · rw [if_pos (.inr h2)]; unfold upd; rw [if_neg h1, if_pos h2]
          · rw [if_neg (fun h => h.elim h1 h2)]; unfold upd; rw [if_neg h1, if_neg h2]
      · intro a' b' ha' hb'
        have hdec : ∀ p q : Nat, p < 16 → q < 16 → (a' * 16 + b' = p * 16 + q * 1 ↔ a' = p ∧ b' = q) := by intro p q hp hq; omega
        have q1 := hdec (lB L j).toNat (lA L j).toNat (by omega) (by omega)
        have q2 := hdec (lA L j).toNat (lB L j).toNat (by omega) (by omega)
        constructor
        · intro h
          split at h
          · rename_i hor
            refine ⟨j, by omega, ?_⟩
            rcases hor with h1 | h1
            · exact .inr ⟨(q1.1 h1).2.symm, (q1.1 h1).1.symm⟩
            · exact .inl ⟨(q2.1 h1).1.symm, (q2.1 h1).2.symm⟩
          · obtain ⟨m, hm, hor⟩ := (hg a' b' ha' hb').1 h
            exact ⟨m, by omega, hor⟩
        · rintro ⟨m, hm, hor⟩
          split
          · rfl
          · rename_i hno
            refine (hg a' b' ha' hb').2 ⟨m, ?_, hor⟩
            by_cases e : m = j
            · subst e
              exfalso
              rcases hor with ⟨h1, h2⟩ | ⟨h1, h2⟩
              · exact hno (.inr (q2.2 ⟨h1.symm, h2.symm⟩))
              · exact hno (.inl (q1.2 ⟨h2.symm, h1.symm⟩))
            · omega
    · rw [hl.len] at c
      have hjn : j = L.length := by simp at c; omega
      subst hjn
      refine ⟨fun x H' => Ext H7 H' ∧ ∃ k : Nat, x = k ∧ k ≤ D.length ∧ ∀ i, i < k → ambOf D i + need L L.length i ≤ capOf D i ∧ capOf D i ≤ 16777216, fun x _ => D.length - x.toNat, ⟨.refl _, 0, rfl, Nat.zero_le _, fun i hi => by omega⟩, ?_⟩
      rintro x H14 ⟨e14, k, rfl, hk2, hck⟩
      unfold F_heat_valid_r1
      rw [hd.len]
      refine iteB_intro (fun c => ?_) (fun c => ?_)
      · have hkn : k < D.length := by simpa using c
        obtain ⟨a, hpa, hr0, hr1⟩ := Doms.at (hd.ext (e7.trans e14)) (x := k) (by omega) (by omega)
        refine ⟨by omega, by omega, unSome_mk hpa ⟨_, hr0, _, hr1, ?_⟩⟩
        simp only [Int.toNat_natCast]
        refine local_mk (by simp) (by simp) ?_
        intro H16 e16 z16 hb16
        have eh := (e7.trans e14).trans e16
        refine ⟨_, hb16.rd0 rfl, by omega, by simpa using hkn, _, (hbn.ext (e14.trans e16)).rd hkn, iteB_intro (fun c => .no (fun h => ?_) eh) (fun d1 => ⟨_, hb16.rd0 rfl, iteB_intro (fun c => .no (fun h => ?_) eh) (fun d2 => ?_)⟩)⟩
        · have := h.cap k hkn; simp at c; omega
        · have := h.cap k hkn; simp at c; omega
        rw [show IntKind.i64.wrap ((k : Int) + 1) = ((k + 1 : Nat) : Int) by rw [i64_in (by omega)]; simp]
        refine ⟨⟨e14.trans e16, k + 1, rfl, by omega, fun i hi => ?_⟩, by simp only [Int.toNat_natCast]; omega⟩
        by_cases e : i = k
        · subst e; simp at d1 d2; omega
        · exact hck i (by omega)
      · have hkn : k = D.length := by simp at c; omega
        subst hkn
        exact .yes ⟨hn1, hn16, ha0, ha1, hdk, hlk, hck⟩ (e7.trans e14)

end Go.Proofs.Ytiikkapdchodkaa
