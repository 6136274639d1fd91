/-
  The contract of Needs.
-/
import Derived.Test.YtfodidlecpiohaaR6
namespace Go.Proofs.Ytfodidlecpiohaa
open Go.Eng

def ownL (T : List FS) (high : Bool) (i : Nat) (S : Nat → List Int) : List Need := regL T high i (fnAt T i).bars (fnAt T i).bars.length ++ winAll T high i (fun c => if c < 3 then S (i * 3 + c) else [])
/-- The tables after 'k' functions, from the last one on. -/
def nB (T : List FS) (high : Bool) : Nat → (Nat → List Need) × (Nat → List Int)
  | 0 => (fun _ => [], fun _ => [])
  | k + 1 => (upd (nB T high k).1 (T.length - 1 - k) (ownL T high (T.length - 1 - k) (nB T high k).2), addAll (fnAt T (T.length - 1 - k)).parent (nB T high k).2 (ownL T high (T.length - 1 - k) (nB T high k).2))

theorem regL_cl (T : List FS) (high : Bool) (i : Nat) (B : List Bar) : ∀ n, ∀ x ∈ regL T high i B n, 0 ≤ x.2.2.1 ∧ x.2.2.1 < 3
  | 0, x, h => by simp [regL] at h
  | n + 1, x, h => by
    simp only [regL, List.mem_append] at h
    rcases h with h | h
    · exact regL_cl T high i B n x h
    · split at h
      · simp at h
      · simp at h
        subst h
        show 0 ≤ classF T high i (bk B n) ∧ classF T high i (bk B n) < 3
        unfold classF
        split
        · omega
        · split <;> omega
theorem winN_cl (T : List FS) (high : Bool) (i : Nat) (S : Nat → List Int) : ∀ n, n ≤ 3 → ∀ x ∈ winN T high i S n, 0 ≤ x.2.2.1 ∧ x.2.2.1 < 3
  | 0, _, x, h => by simp [winN] at h
  | n + 1, hn, x, h => by
    simp only [winN, List.mem_append] at h
    rcases h with h | h
    · exact winN_cl T high i S n (by omega) x h
    · split at h
      · simp at h
        subst h
        show 0 ≤ (n : Int) ∧ (n : Int) < 3
        omega
      · simp at h
theorem ownL_cl (T : List FS) (high : Bool) (i : Nat) (S : Nat → List Int) : ∀ x ∈ ownL T high i S, 0 ≤ x.2.2.1 ∧ x.2.2.1 < 3 := by
  intro x hx
  simp only [ownL, List.mem_append] at hx
  rcases hx with hx | hx
  · exact regL_cl _ _ _ _ _ x hx
  · unfold winAll at hx
    split at hx
    · exact winN_cl _ _ _ _ 3 (by omega) x hx
    · simp at hx
theorem ownL_len {T : List FS} (hv : ValidT T) (high : Bool) {i : Nat} (hi : i < T.length) (S : Nat → List Int) : (ownL T high i S).length ≤ 9 := by
  have h1 := regL_len T high i (fnAt T i).bars (fnAt T i).bars.length
  have h2 := (hv.2 i hi).va.bl
  have h3 : regs (fnAt T i).bridge ≤ 6 := by unfold regs; split <;> omega
  have h4 : (winAll T high i (fun c => if c < 3 then S (i * 3 + c) else [])).length ≤ 3 := by
    unfold winAll
    split
    · exact winN_len _ _ _ _ 3
    · simp
  simp only [ownL, List.length_append]
  omega

/-- Own needs of function 'i'; all needs. -/
def needsAt (T : List FS) (high : Bool) (i : Nat) : List Need := (nB T high T.length).1 i
def needsAll (T : List FS) (high : Bool) : List Need := (List.range T.length).flatMap (needsAt T high)
def Ovf (T : List FS) (high : Bool) : Prop := ∃ i, i < T.length ∧ Over (needsAt T high i)

theorem nB_keep (T : List FS) (high : Bool) : ∀ d k i, T.length - k ≤ i → (nB T high (k + d)).1 i = (nB T high k).1 i ∨ T.length ≤ k
  | 0, k, i, _ => .inl rfl
  | d + 1, k, i, h => by
    by_cases hk : T.length ≤ k
    · exact .inr hk
    · left
      rcases nB_keep T high d k i h with e | e
      · show upd (nB T high (k + d)).1 (T.length - 1 - (k + d)) _ i = _
        rw [upd_ne (by omega), e]
      · omega

theorem needsAt_eq {T : List FS} {high : Bool} {k i : Nat} (hk : k ≤ T.length) (hi : T.length - k ≤ i) : (nB T high k).1 i = needsAt T high i := by
  have := nB_keep T high (T.length - k) k i hi
  rw [show k + (T.length - k) = T.length by omega] at this
  rcases this with e | e
  · exact e.symm
  · have : k = T.length := by omega
    subst this; rfl

inductive NeedsR (T : List FS) (high : Bool) (H : Heap) : Value → Heap → Prop
  | bad {H' : Heap} (hv : ¬ ValidT T) (he : Ext H H') : NeedsR T high H (.tuple #[.slice none 0 0, .int .i64 1]) H'
  | over {H' : Heap} (hv : ValidT T) (ho : Ovf T high) (he : Ext H H') : NeedsR T high H (.tuple #[.slice none 0 0, .int .i64 11]) H'
  | good {H' : Heap} (out : Sl) (hv : ValidT T) (ho : ¬ Ovf T high) (hs : Own H.size t_api_Need 4 H' out ((needsAll T high).flatMap encN)) (hn : out.n = (needsAll T high).length) (he : Ext H H') : NeedsR T high H (.tuple #[.slice out.p out.n out.c, .int .i64 0]) H'

/-- The state between the rounds. -/
abbrev NI (T : List FS) (high : Bool) (H0 : Heap) (ob bb : Nat) (k : Nat) (H : Heap) : Prop := ∃ O B, NM H0 T.length ob bb (9 * k) H O B (nB T high k).2 (T.length - k) (nB T high k).1 ∧ ∀ j, T.length - k ≤ j → j < T.length → ¬ Over ((nB T high k).1 j)

theorem NM.store {H0 H : Heap} {n ob bb K m : Nat} {O B : Nat → Sl} {S : Nat → List Int} {N : Nat → List Need} (h : NM H0 n ob bb K H O B S m N) {i : Nat} (hi : i < n) (him : i + 1 = m) {x : Sl} {L : List Need} (hx : IsS 4 encN H x L) (tx : TyB H x.p t_api_Need) :
    NM H0 n ob bb K (wrs H ((⟨ob, 0, none⟩ : Addr).add i) [slV x]) (upd O i x) B S i (upd N i L) := by
  have mw : Mods [ob] H (wrs H ((⟨ob, 0, none⟩ : Addr).add i) [slV x]) := mods_wr_add (by simp)
  have hty : ∀ (e : TypeId), e ≠ t_sl_api_Need → ∀ p, TyB H p e → ∀ a, p = some a → a.block ∉ [ob] := fun e he p hp a ha => by
    have := ty_ne hp h.oty he a ha
    simpa [blkOf] using this
  refine ⟨Mods.ext h.ext mw (by have := h.lo; simp; omega), ?_, h.bv.mods mw (by have := h.lo; simp; omega), fun q hq => ⟨(h.bo q hq).1.mods mw (hty _ (by decide) _ (own_ty (h.bo q hq).1)), (h.bo q hq).2⟩, h.ap, ?_, h.lo⟩
  · refine (h.ov.wr hi (slV x)).congr (fun j _ => ?_)
    by_cases e : j = i
    · subst e; rw [upd_same, upd_same]
    · rw [upd_ne e, upd_ne e]
  · intro j h1 h2
    by_cases e : j = i
    · subst e
      rw [upd_same, upd_same]
      exact ⟨hx.mods mw (hty _ (by decide) _ tx), tx.mods mw (hty _ (by decide) _ tx)⟩
    · rw [upd_ne e, upd_ne e]
      obtain ⟨u1, u2⟩ := h.on j (by omega) h2
      exact ⟨u1.mods mw (hty _ (by decide) _ u2), u2.mods mw (hty _ (by decide) _ u2)⟩

theorem needs_round {T : List FS} {s : Sl} {high : Bool} {H0 H1 H2 H4 : Heap} {k : Nat} {I : Int → Heap → Prop} {M : Int → Heap → Nat} (hT : Topo H0 s T) (hv : ValidT T) (hk : k < T.length) (h4 : NI T high H0 H1.size H2.size k H4)
    (hI : I = fun i H' => ∃ k : Nat, i = (T.length : Int) - 1 - k ∧ k ≤ T.length ∧ NI T high H0 H1.size H2.size k H') (hM : M = fun i _ => (i + 1).toNat) :
    F_resources_Needs_r3 (NeedsR T high H0) s high H1 H2 I M ((T.length - 1 - k : Nat) : Int) H4 := by
  unfold F_resources_Needs_r3
  obtain ⟨O, B, hM4, hov⟩ := h4
  have hsn := hT.len
  have hl64 := hv.1
  generalize hi : T.length - 1 - k = i at *
  have hiT : i < T.length := by omega
  have x4 := hM4.ext
  have q0 : i * 3 + 0 < 3 * T.length := by omega
  have q1 : i * 3 + 1 < 3 * T.length := by omega
  have q2 : i * 3 + 2 < 3 * T.length := by omega
  refine iteB_pos (by simp) ⟨by omega, by omega, B (i * 3), hM4.bv.rd (i := i * 3) (by omega), B (i * 3 + 1), by rw [add_add, Int.toNat_natCast]; exact hM4.bv.rd q1, B (i * 3 + 2), by rw [add_add, Int.toNat_natCast]; exact hM4.bv.rd q2, (registers_spec' T s high i H4 (hT.ext x4) hv hiT).mono ?_⟩
  rintro v H5 ⟨r, rfl, or5, nr5, e5⟩
  have int5 : ∀ q, q < 3 * T.length → Ints .i64 H5 (B q) ((nB T high k).2 q) := fun q hq => ((hM4.bo q hq).1.ext e5).isS (ints_row _) (by omega)
  have hbo : ∀ q, q < 3 * T.length → ((nB T high k).2 q).length ≤ 9 * k := fun q hq => (hM4.bo q hq).2.2
  refine ⟨r, rfl, e5.keeps, (windows_spec T s high i H5 (hT.ext (x4.trans e5)) hv hiT (B (i * 3)) (B (i * 3 + 1)) (B (i * 3 + 2)) (fun c => if c < 3 then (nB T high k).2 (i * 3 + c) else []) (int5 _ q0) (int5 _ q1) (int5 _ q2) (fun c => ?_)).mono ?_⟩
  · split
    · rename_i hc
      have := hbo (i * 3 + c) (by omega)
      omega
    · simp
  rintro v H6 ⟨w, rfl, ow6, nw6, e6⟩
  have hL : ownL T high i (nB T high k).2 = regL T high i (fnAt T i).bars (fnAt T i).bars.length ++ winAll T high i (fun c => if c < 3 then (nB T high k).2 (i * 3 + c) else []) := rfl
  have hLl := ownL_len hv high hiT (nB T high k).2
  have hrl : (regL T high i (fnAt T i).bars (fnAt T i).bars.length).length ≤ 9 := by rw [hL] at hLl; simp at hLl; omega
  have hwl : (regL T high i (fnAt T i).bars (fnAt T i).bars.length).length + (winAll T high i (fun c => if c < 3 then (nB T high k).2 (i * 3 + c) else [])).length ≤ 9 := by rw [hL] at hLl; simpa using hLl
  have fin : ∀ (x6 : Sl) (H7 : Heap), Own H4.size t_api_Need 4 H7 x6 ((ownL T high i (nB T high k).2).flatMap encN) → Ext H4 H7 →
      (0 ≤ (i : Int) ∧ (i : Int) < ((s.n : Int).toNat : Int) ∧ (okRow H7 ((⟨H1.size, 0, none⟩ : Addr).add ((i : Int).toNat * 1)) 1 ∧ (
      letH (wrs H7 ((⟨H1.size, 0, none⟩ : Addr).add ((i : Int).toNat * 1)) [.slice x6.p x6.n x6.c]) (fun H8 : Heap =>
      0 ≤ (i : Int) ∧ (i : Int) < ((s.n : Int).toNat : Int) ∧ (∃ x7 : Sl, rd H8 ((⟨H1.size, 0, none⟩ : Addr).add ((i : Int).toNat * 1)) = some (.slice x7.p x7.n x7.c) ∧ (
      ∃ I_1 : Int → Heap → Prop, ∃ M_1 : Int → Heap → Nat, I_1 (0 : Int) H8 ∧ (∀ x8 : Int, ∀ H9 : Heap, I_1 x8 H9 → F_resources_Needs_r1 (NeedsR T high H0) s H2 I M (i : Int) H4 x7 I_1 M_1 x8 H9))))))) := by
    intro x6 H7 o6 e7
    have h7 := hM4.ext' e7
    have his : IsS 4 encN H7 x6 (ownL T high i (nB T high k).2) := o6.isS encN_len (by omega)
    refine ⟨by omega, by omega, by rw [Int.toNat_natCast, Nat.mul_one]; exact h7.ov.ok (by omega), letH_mk ?_⟩
    rw [Int.toNat_natCast, Nat.mul_one]
    rintro H8 rfl
    have h8 := h7.store hiT (by omega) his (own_ty o6)
    refine ⟨by omega, by omega, upd O i x6 i, h8.ov.rd hiT, ?_⟩
    have hN : upd (nB T high k).1 i (ownL T high i (nB T high k).2) i = ownL T high i (nB T high k).2 := upd_same
    have hnB : nB T high (k + 1) = (upd (nB T high k).1 i (ownL T high i (nB T high k).2), addAll (fnAt T i).parent (nB T high k).2 (ownL T high i (nB T high k).2)) := by rw [← hi]; rfl
    refine needs_inner hT hv hiT rfl (by rw [hN]; omega) h8 (by rw [hN]; exact ownL_cl _ _ _ _) ?_ ?_
    · intro H' e' ho
      rw [hN] at ho
      refine .over hv ⟨i, hiT, ?_⟩ e'
      rw [← needsAt_eq (k := k + 1) (by omega) (by omega), hnB]
      show Over (upd _ i _ i)
      rw [hN]; exact ho
    · intro H' B' h' hno
      rw [hN] at h' hno
      subst hI hM
      have hik : T.length - (k + 1) = i := by omega
      refine ⟨⟨k + 1, by rw [i64_in (by omega)]; omega, by omega, upd O i x6, B', ?_, ?_⟩, ?_⟩
      · rw [hnB, hik]
        exact ⟨h'.ext, h'.ov, h'.bv, fun q hq => ⟨(h'.bo q hq).1, (h'.bo q hq).2.1, Nat.le_trans (h'.bo q hq).2.2 (by omega)⟩, h'.ap, h'.on, h'.lo⟩
      · intro j h1 h2
        rw [hnB]
        show ¬ Over (upd _ i _ j)
        by_cases e : j = i
        · subst e; rw [hN]; exact hno
        · rw [upd_ne e]; exact hov j (by omega) h2
      · dsimp only
        rw [i64_in (by omega)]
        omega
  refine ⟨w, rfl, ?_⟩
  have e46 := e5.trans e6
  have or6 := or5.ext e6
  have nbr := blkOf_new or5.new
  cases hwp : w.p with
  | none =>
    have hw0 : winAll T high i (fun c => if c < 3 then (nB T high k).2 (i * 3 + c) else []) = [] := by
      have := ow6.isS encN_len (by omega) |>.row
      rcases this with e | ⟨a, ha, _⟩
      · exact e
      · rw [hwp] at ha; cases ha
    have hwn : w.n = 0 := by rw [nw6, hw0]; rfl
    rw [hwn]
    refine append_none (e := t_api_Need) (sz := 4) (by kernel_rfl) (by kernel_rfl) ?_ ⟨r, rfl, fin r H6 ?_ e46⟩
    · rcases or6.cases.2 with ⟨e, _⟩ | ⟨_, _, _, _, _, hc, _⟩
      · rw [e]; simp
      · exact hc
    · rw [hL, hw0, List.append_nil]; exact or6
  | some ad =>
    rw [← hwp]
    refine append_at (enc := encN) (z := .agg #[.int .i64 0, .int .i64 0, .int .i64 0, .int .i64 0]) (sz := 4) (bytes := 32) (lo := H4.size) (by kernel_rfl) (by kernel_rfl) rfl (by omega) encN_len encN_one or6 (ow6.isS encN_len (by omega)) (by rw [hwp]; simp) (by simp [maxLen]; omega) (by omega) e46.size ?_
    intro s' H7 ho hn7 m7 _
    exact ⟨s', rfl, fin s' H7 (by rw [hL]; exact ho) (Mods.ext e46 m7 nbr)⟩

end Go.Proofs.Ytfodidlecpiohaa
