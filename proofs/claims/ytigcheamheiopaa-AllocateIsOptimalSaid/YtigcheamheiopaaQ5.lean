/-
  AllocateIsOptimal.
-/
import Derived.Test.YtigcheamheiopaaQ4
namespace Go.Proofs.Ytigcheamheiopaa
open Go.Eng
set_option linter.unusedVariables false

theorem nblk {p : Option Addr} {b : Nat} (h : ∀ a, p = some a → a.block ≠ b) : b ∉ blkOf p := by
  cases p with
  | none => simp [blkOf]
  | some a => simp only [blkOf, List.mem_singleton]; exact fun e => h a rfl e.symm

def opR (r : Rg) : Rg := (r.1.tmod 100, 1 + r.2.tmod 28)
theorem opR_ok {r : Rg} (h : (0 ≤ r.1 ∧ r.1 ≤ 18446744073709551615) ∧ (0 ≤ r.2 ∧ r.2 ≤ 18446744073709551615)) : 0 ≤ (opR r).1 ∧ (opR r).1 < 100 ∧ 1 ≤ (opR r).2 ∧ (opR r).2 ≤ 28 := by
  unfold opR
  dsimp only
  rw [Int.tmod_eq_emod_of_nonneg h.1.1, Int.tmod_eq_emod_of_nonneg h.2.1]
  omega

/-! ### the items in descending order -/
def srtI (S : List Int) (m : Nat) : List Int := ((List.range m).map (fun j : Nat => ((5 - j : Nat) : Int))).flatMap (fun k => S.filter (fun x => decide (x = k)))
theorem srtI_succ (S : List Int) (m : Nat) : srtI S (m + 1) = srtI S m ++ S.filter (fun x => decide (x = ((5 - m : Nat) : Int))) := by
  unfold srtI
  rw [List.range_succ, List.map_append, List.flatMap_append]
  simp
theorem srtI_desc (S : List Int) : ∀ m, m ≤ 5 → (srtI S m).Pairwise (fun a b => b ≤ a) ∧ ∀ x ∈ srtI S m, 5 - (m : Int) < x ∧ x ≤ 5
  | 0, _ => ⟨List.Pairwise.nil, fun x hx => by simp [srtI] at hx⟩
  | m + 1, hm => by
    obtain ⟨h1, h2⟩ := srtI_desc S m (by omega)
    rw [srtI_succ]
    have hf : ∀ x ∈ S.filter (fun x => decide (x = ((5 - m : Nat) : Int))), x = ((5 - m : Nat) : Int) := fun x hx => by simpa using (List.mem_filter.1 hx).2
    refine ⟨List.pairwise_append.2 ⟨h1, ?_, fun a ha b hb => by have := h2 a ha; have := hf b hb; omega⟩, fun x hx => ?_⟩
    · generalize S.filter (fun x => decide (x = ((5 - m : Nat) : Int))) = l at hf
      exact List.pairwise_iff_getElem.2 (fun i j hi hj _ => by have := hf _ (List.getElem_mem hi); have := hf _ (List.getElem_mem hj); omega)
    · rcases List.mem_append.1 hx with h | h
      · have := h2 x h; omega
      · have := hf x h; omega
theorem desc_of {l : List Int} (h : l.Pairwise (fun a b => b ≤ a)) : Desc (l.map (fun x : Int => x.toNat)) := by
  induction l with
  | nil => trivial
  | cons x l ih =>
    rw [List.pairwise_cons] at h
    refine ⟨fun t ht => ?_, ih h.2⟩
    obtain ⟨y, hy, rfl⟩ := List.mem_map.1 ht
    have := h.1 y hy
    dsimp only
    omega
theorem demI_srt (k : Int) : ∀ (S : List Int), (∀ x ∈ S, 1 ≤ x ∧ x ≤ 5) → demI k (srtI S 5) = demI k S
  | [], _ => rfl
  | x :: S, h => by
    have ih := demI_srt k S (fun y hy => h y (by simp [hy]))
    have hx := h x (by simp)
    simp only [srtI_succ, demI_append] at ih ⊢
    have h0 : ∀ S, srtI S 0 = [] := fun S => rfl
    rw [h0] at ih ⊢
    have hc : x = 1 ∨ x = 2 ∨ x = 3 ∨ x = 4 ∨ x = 5 := by omega
    rcases hc with rfl | rfl | rfl | rfl | rfl <;> simp [demI] at ih ⊢ <;> omega

/-- The search and Place agree. -/
theorem fit_place {F : List Rg} {S : List Int} {f : Nat → Bool} (hv : ValidR F) (hI : ItemsOk S) (hS : ∀ x ∈ S, 1 ≤ x ∧ x ≤ 5) (hb : ∀ r ∈ F, r.1 + r.2 ≤ 128) (hf : MarkR F f) :
    FitB ((srtI S 5).map (fun x : Int => x.toNat)) f ↔ (placeV F S).1 = 0 := by
  obtain ⟨_, am⟩ := hv.merge
  have hcov := (mergeF_spec (l := F) (fun x hx => (hv.2 x hx).1)).2.1
  have hd := srtI_desc S 5 (Nat.le_refl _)
  have hdesc := desc_of hd.1
  rw [fitB_plc _ f (mergeF F) am (fun x => ?_), placeV_iff hv hI]
  · have hdm : ∀ k, dem k ((srtI S 5).map (fun x : Int => x.toNat)) = dem k ((ordF S).map (szOf S)) := fun k => by
      rw [dem_ord hI, dem_demI k _ (fun x hx => by have := hd.2 x hx; omega), demI_srt k S hS]
    have hroom : Room ((srtI S 5).map (fun x : Int => x.toNat)) (mergeF F) ↔ Room ((ordF S).map (szOf S)) (mergeF F) := by
      unfold Room
      simp only [hdm]
    rw [← hroom]
    exact ⟨fun h => plc_room _ _ hdesc am h, fun h => place_plc _ _ ((room_place _ _ hdesc am).1 h)⟩
  · rw [hcov x]
    constructor
    · intro h
      have h' := h
      obtain ⟨r, hr, h1, h2⟩ := h
      have := hv.2 r hr
      have := hb r hr
      unfold RgOk at *
      refine ⟨by omega, by omega, (hf x.toNat).2 ?_⟩
      rw [Int.toNat_of_nonneg (by omega)]
      exact h'
    · rintro ⟨h1, h2, h3⟩
      have := (hf x.toNat).1 h3
      rw [Int.toNat_of_nonneg h1] at this
      exact this

structure OpF (H : Heap) (L : List Rg) (k : Nat) (o : Sl) (H' : Heap) : Prop where
  own : Own (H.size + 1) t_api_Range 2 H' o (((L.take k).map opR).flatMap encR)
  mark : ∃ f, BBlk H' H.size t_128_bool 128 f ∧ MarkR ((L.take k).map opR) f
  ext : Ext H H'
  lt : H.size < H'.size

theorem cov_map_succ {L : List Rg} {k : Nat} (hk : k < L.length) {x : Int} : Cov ((L.take (k + 1)).map opR) x ↔ Cov ((L.take k).map opR) x ∨ ((opR (L.getD k (0, 0))).1 ≤ x ∧ x < (opR (L.getD k (0, 0))).1 + (opR (L.getD k (0, 0))).2) := by
  rw [take_succ_d ((0, 0) : Rg) hk, List.map_append, Cov_append]
  constructor
  · rintro (h | ⟨r, hr, h⟩)
    · exact .inl h
    · simp at hr; subst hr; exact .inr h
  · rintro (h | h)
    · exact .inl h
    · exact .inr ⟨_, by simp, h⟩

theorem opt_round (H : Heap) (l : Sl) (L : List Rg) (hl : Rgs H l L) (hu : U64L L) (J_ : Sl → Heap → Prop) (k : Nat) (o : Sl) (H2 : Heap) (hk : k ≤ 5) (st : OpF H L k o H2) (hkl : k ≤ L.length)
    (hJ : ∀ o' H', OpF H L (min 5 L.length) o' H' → J_ o' H') (I_ : Sl → Int → Heap → Prop) (M_ : Sl → Int → Heap → Nat)
    (hI : ∀ o' H', k < L.length → k < 5 → OpF H L (k + 1) o' H' → I_ o' ((k + 1 : Nat) : Int) H' ∧ M_ o' ((k + 1 : Nat) : Int) H' < M_ o k H2) : F_law21_AllocateIsOptimal_r2 H l J_ I_ M_ o k H2 := by
  unfold F_law21_AllocateIsOptimal_r2
  have hn := hl.len
  refine iteB_dec (fun c => iteB_dec (fun c1 => ?_) (fun c1 => hJ _ _ (by rw [show min 5 L.length = k by omega]; exact st))) (fun c => hJ _ _ (by rw [show min 5 L.length = k by omega]; exact st))
  have hkn : k < L.length := by omega
  obtain ⟨a, hp, r0, r1⟩ := Rgs.atN (hl.ext st.ext) hkn
  have hx := opR_ok (hu _ (getD_mem' (l := L) (k := k) (0, 0) hkn))
  have htk := take_succ_d (l := L) ((0, 0) : Rg) hkn
  have hcv := fun z : Int => cov_map_succ hkn (x := z)
  have on := Own.len rkRange st.own
  simp only [List.length_map, List.length_take] at on
  generalize L.getD k (0, 0) = r at *
  have hw : IntKind.u64.wrap (1 + r.2.tmod 28) = 1 + r.2.tmod 28 := by unfold opR at hx; dsimp only at hx; exact u64_in (by omega)
  refine ⟨by omega, by omega, unSome_mk hp ⟨_, r0, by omega, by omega, unSome_mk hp ⟨_, r1, ?_⟩⟩⟩
  rw [hw]
  refine push_mk (vs := encR (0, 0)) fun H3 e3 z3 b3 => ⟨e3.keeps, b3.ok0 (Nat.le_refl 2), letH_mk ?_⟩
  intro H4 h4
  have b4 : Blk H4 H2.size t_api_Range (encR (opR r)) := by rw [h4]; exact b3.wr
  have m4 : Mods [H2.size] H3 H4 := by rw [h4]; exact Mods.wrs (by simp)
  have e4 : Ext H2 H4 := Mods.ext e3 m4 (by simp)
  clear h4
  refine ⟨_, b4.rd0 rfl, _, b4.rd (i := 1) rfl, ?_⟩
  have ow4 := st.own.ext e4
  have z4 := e4.size
  have hlt := st.lt
  refine apR rkRange (opR r) (lo := H.size + 1) ow4 (by omega) (by omega) ?_
  intro o' H6 ow6 n6 m6
  have b6 := b4.mods m6 (nblk (fun a ha => by have := st.own.lt a ha; omega))
  obtain ⟨f, bf, mf⟩ := st.mark
  have nf : H.size ∉ blkOf o.p := nblk (fun a ha => by
    have := st.own.new
    have h1 := st.own.new a ha
    omega)
  have bf6 := (bf.ext e4).mods m6 nf
  have e6 : Ext H H6 := Mods.ext (st.ext.trans e4) m6 (blkOf_new (n := H.size) (fun a ha => by have := st.own.new a ha; omega))
  have z6 := m6.size
  refine ⟨_, b6.rd0 rfl, fun x H' => ∃ m : Nat, x = (opR r).1 + m ∧ (m : Int) ≤ (opR r).2 ∧ Mods [H.size] H6 H' ∧ ∃ f, BBlk H' H.size t_128_bool 128 f ∧ ∀ z : Nat, f z = true ↔ Cov ((L.take k).map opR) z ∨ ((opR r).1 ≤ z ∧ (z : Int) < x), fun x _ => (600 - x).toNat, ⟨0, by omega, by omega, .refl _ _, f, bf6, fun z => ?_⟩, ?_⟩
  · rw [mf z]
    constructor
    · exact .inl
    · rintro (h | h)
      · exact h
      · omega
  rintro x H7 ⟨m, rfl, hm, m7, f, g7, mf⟩
  unfold F_law21_AllocateIsOptimal_r1
  have b7 := b6.mods m7 (by simp; omega)
  refine ⟨_, b7.rd0 rfl, _, b7.rd (i := 1) rfl, ?_⟩
  rw [u64_in (n := (opR r).1 + (opR r).2) (by omega)]
  refine iteB_dec (fun c1 => ⟨by omega, by omega, g7.ok (by omega), letH_mk ?_⟩) (fun c1 => ?_)
  · intro H8 h8
    have g8 := g7.wr (i := ((opR r).1 + (m : Int)).toNat) (by omega) true
    rw [← h8] at g8
    have m8 : Mods [H.size] H7 H8 := by rw [h8]; exact mods_wr_add (by simp)
    refine letV_mk ((opR r).1 + ((m + 1 : Nat) : Int)) (by rw [u64_in (by omega)]; omega) ⟨⟨m + 1, rfl, by omega, m7.trans m8, _, g8, fun z => ?_⟩, by dsimp only; omega⟩
    unfold upd
    split
    · rename_i hz
      simp only [true_iff]
      right; omega
    · rw [mf z]
      constructor
      · rintro (h | h)
        · exact .inl h
        · right; omega
      · rintro (h | h)
        · exact .inl h
        · right; omega
  · refine letV_mk ((k + 1 : Nat) : Int) (by rw [i64_in (by omega)]; omega) (hI _ _ hkn (by omega) ⟨?_, ⟨f, g7, fun z => ?_⟩, Mods.ext e6 m7 (by simp), by have := m7.size; omega⟩)
    · rw [htk, List.map_append]
      exact ow6.mods m7 (fun a ha => by have := ow6.new a ha; simp; omega)
    · rw [mf z, hcv z]
      have : (m : Int) = (opR r).2 := by omega
      rw [this]

def opS (l : List Int) : List Int := (l.take 5).map (fun x => 1 + modI x 5)
theorem opS_ok (l : List Int) : (opS l).length ≤ 5 ∧ ∀ x ∈ opS l, 1 ≤ x ∧ x ≤ 5 := by
  refine ⟨by simp [opS]; omega, fun x hx => ?_⟩
  obtain ⟨y, _, rfl⟩ := List.mem_map.1 hx
  have := modI_range y (n := 5) (by omega)
  omega

set_option maxRecDepth 100000 in
theorem law_optimal (H : Heap) (l s : Sl) (L : List Rg) (S0 : List Int) (hl : Rgs H l L) (hu : U64L L) (hS0 : Ints .i64 H s S0) :
    CallsH Try.prog n_law21_AllocateIsOptimal #[.slice l.p l.n l.c, .slice s.p s.n s.c] H (BoolP true H) := by
  refine F_law21_AllocateIsOptimal_ok _ _ ?_
  unfold F_law21_AllocateIsOptimal
  refine push_mk (vs := List.replicate 128 (.bool false)) fun H1 e1 z1 b1 => ⟨fun o H' => OpF H L (min 5 L.length) o H', ?_, ?_⟩
  · refine loop2 (min 5 L.length) (fun k o H' => OpF H L k o H') ⟨by simpa using Own.nil _ _ _ _, ⟨_, BBlk.of b1, fun z => by simp [Cov_nil]⟩, e1, by omega⟩ ?_
    rintro k o H2 hk st
    refine opt_round H l L hl hu _ k o H2 (by omega) st (by omega) (fun o' H' h => h) _ _ (fun o' H' h1 h2 h3 => ?_)
    rw [← i64_succ (by omega)]
    exact next2 (by omega) (by omega) h3
  rintro free H9 ⟨ownF, ⟨f, bf, mf⟩, e9, lt9⟩
  unfold F_law21_AllocateIsOptimal_k7
  have hFe : (L.take (min 5 L.length)).map opR = (L.take 5).map opR := by
    congr 1
    by_cases h : L.length ≤ 5
    · rw [List.take_of_length_le (by omega), List.take_of_length_le h]
    · rw [show min 5 L.length = 5 by omega]
  rw [hFe] at ownF mf
  have hF : ∀ r ∈ (L.take 5).map opR, 0 ≤ r.1 ∧ r.1 < 100 ∧ 1 ≤ r.2 ∧ r.2 ≤ 28 := fun r hr => by
    obtain ⟨x, hx, rfl⟩ := List.mem_map.1 hr
    exact opR_ok (hu x (List.mem_of_mem_take hx))
  have hFl : ((L.take 5).map opR).length ≤ 5 := by simp; omega
  generalize (L.take 5).map opR = F at *
  have hv : ValidR F := ⟨by omega, fun r hr => by have := hF r hr; unfold RgOk; omega⟩
  have hU : U64L F := fun r hr => by have := hF r hr; omega
  have isF := Own.is rkRange ownF
  have hsn := hS0.len
  refine ⟨fun o H' => Own H9.size t_int 1 H' o ((opS S0).flatMap (Go.Eng.encI .i64)) ∧ Ext H9 H', ?_, ?_⟩
  · refine loop2 (min 5 S0.length) (fun k o H' => Own H9.size t_int 1 H' o (((S0.take k).map (fun x => 1 + modI x 5)).flatMap (Go.Eng.encI .i64)) ∧ Ext H9 H') ⟨by simpa using Own.nil _ _ _ _, .refl _⟩ ?_
    rintro k o H10 hk ⟨ow, e10⟩
    unfold F_law21_AllocateIsOptimal_r3
    have done : min 5 S0.length = k → Own H9.size t_int 1 H10 o ((opS S0).flatMap (Go.Eng.encI .i64)) ∧ Ext H9 H10 := fun hh => by
      have e : opS S0 = (S0.take k).map (fun x => 1 + modI x 5) := by
        unfold opS
        rw [← hh]
        congr 1
        by_cases h : S0.length ≤ 5
        · rw [List.take_of_length_le (by omega), List.take_of_length_le (by omega)]
        · rw [show min 5 S0.length = 5 by omega]
      rw [e]
      exact ⟨ow, e10⟩
    refine iteB_dec (fun c => iteB_dec (fun c1 => ?_) (fun c1 => done (by omega))) (fun c => done (by omega))
    have hkn : k < S0.length := by omega
    obtain ⟨a, hp, r0⟩ := Ints.atN (hS0.ext (e9.trans e10)) hkn
    have htk := take_succ_d (l := S0) (0 : Int) hkn
    have on := Own.len rkInt ow
    generalize S0.getD k 0 = x at *
    have hm := modI_range x (n := 5) (by omega)
    refine ⟨by omega, by omega, unSome_mk hp ⟨_, r0, (Mod_spec x 5 H10 (by omega) (by omega)).mono ?_⟩⟩
    rintro v H11 ⟨rfl, rfl⟩
    refine ⟨_, rfl, ?_⟩
    rw [i64_in (n := 1 + modI x 5) (by omega)]
    refine apR rkInt (1 + modI x 5) (lo := H9.size) ow (by simp at on; omega) e10.size ?_
    intro o' H' ow' n' m'
    refine letV_mk _ rfl (next2 (by omega) (by omega) ⟨?_, Mods.ext e10 m' (blkOf_new ow.new)⟩)
    rw [htk, List.map_append]
    exact ow'
  rintro items H14 ⟨ownS, e14⟩
  unfold F_law21_AllocateIsOptimal_k6
  obtain ⟨hSl, hS⟩ := opS_ok S0
  generalize opS S0 = S at *
  have hI : ItemsOk S := ⟨by omega, fun x hx => by have := hS x hx; omega⟩
  have isS := Own.is rkInt ownS
  refine (Place_spec H14 free items F S (isF.ext e14) hU isS).mono ?_
  rintro v H15 ⟨o, rfl, _, _, e15⟩
  refine ⟨o, _, _, _, _, _, rfl, local_mk (vs := encC (placeV F S).2.2) rfl rfl fun H17 e17 z17 b17 => ?_⟩
  have hin := isS.len
  have x17 := (e14.trans e15).trans e17
  have is17 := isS.ext (e15.trans e17)
  refine ⟨fun sorted k H' => ∃ j : Nat, j ≤ 5 ∧ k = 5 - (j : Int) ∧ Own H17.size t_int 1 H' sorted ((srtI S j).flatMap (Go.Eng.encI .i64)) ∧ Ext H17 H', fun _ k _ => k.toNat, ⟨0, by omega, by omega, Own.nil _ _ _ _, .refl _⟩, ?_⟩
  rintro sorted k H18 ⟨j, hj, rfl, ow18, e18⟩
  unfold F_law21_AllocateIsOptimal_r5
  have lenS : ∀ m, (srtI S m).length ≤ m * S.length := fun m => by
    induction m with
    | zero => simp [srtI]
    | succ m ih =>
      rw [srtI_succ, List.length_append, Nat.add_mul, Nat.one_mul]
      have := List.length_filter_le (fun x => decide (x = ((5 - m : Nat) : Int))) S
      omega
  have hl5 : (srtI S j).length ≤ 25 := Nat.le_trans (lenS j) (Nat.le_trans (Nat.mul_le_mul hj hSl) (by decide))
  refine iteB_dec (fun c => ?_) (fun c => ?_)
  · have hk5 : (5 : Int) - (j : Int) = ((5 - j : Nat) : Int) := by omega
    rw [hk5]
    refine loop2 S.length (fun i o H' => Own H17.size t_int 1 H' o ((srtI S j ++ (S.take i).filter (fun x => decide (x = ((5 - j : Nat) : Int)))).flatMap (Go.Eng.encI .i64)) ∧ Ext H17 H') ⟨by simpa using ow18, e18⟩ ?_
    rintro i o H19 hi ⟨ow19, e19⟩
    unfold F_law21_AllocateIsOptimal_r4
    refine iteB_dec (fun c1 => ?_) (fun c1 => ?_)
    · have hin : i < S.length := by omega
      obtain ⟨a, hp, hr⟩ := Ints.atN (is17.ext e19) hin
      have htk := take_succ_d (0 : Int) hin
      have on := Own.len rkInt ow19
      have hl2 := List.length_filter_le (fun x => decide (x = ((5 - j : Nat) : Int))) (S.take i)
      rw [List.length_append] at on
      simp only [List.length_take] at hl2
      generalize S.getD i 0 = x at *
      refine ⟨by omega, by omega, unSome_mk hp ⟨_, hr, iteB_beq (fun c2 => ?_) (fun c2 => letV_mk _ rfl (next2 hin (by omega) ⟨?_, e19⟩))⟩⟩
      · refine apR rkInt ((5 - j : Nat) : Int) (lo := H17.size) ow19 (by omega) e19.size ?_
        intro o' H' ow' n' m'
        refine letV_mk _ rfl (next2 hin (by omega) ⟨?_, Mods.ext e19 m' (blkOf_new ow19.new)⟩)
        rw [htk, List.filter_append, ← List.append_assoc]
        simp only [List.filter_cons, List.filter_nil, c2, decide_true, if_true]
        exact ow'
      · rw [htk, List.filter_append]
        simp only [List.filter_cons, List.filter_nil, c2, decide_false]
        simpa using ow19
    · obtain rfl : i = S.length := by omega
      rw [List.take_length, ← srtI_succ] at ow19
      refine letV_mk (5 - ((j + 1 : Nat) : Int)) (by rw [i64_in (by omega)]; omega) ⟨⟨j + 1, by omega, rfl, ow19, e19⟩, by dsimp only; omega⟩
  · obtain rfl : j = 5 := by omega
    have isO := Own.is rkInt ow18
    have hd := srtI_desc S 5 (Nat.le_refl _)
    have hmap : ((srtI S 5).map (fun x : Int => x.toNat)).map (fun n : Nat => (n : Int)) = srtI S 5 := by
      rw [List.map_map]
      conv => rhs; rw [← List.map_id (srtI S 5)]
      refine List.map_congr_left (fun x hx => ?_)
      have := hd.2 x hx
      simp
      omega
    have x18 := x17.trans e18
    have hz := x18.size
    have hfit := fits_spec ((srtI S 5).map (fun x : Int => x.toNat)) H18 H.size sorted f (fun t ht => by obtain ⟨x, hx, rfl⟩ := List.mem_map.1 ht; have := hd.2 x hx; omega) (bf.ext x18) (by rw [hmap]; exact isO) (Own.cap ow18) (fun a ha => by have := ow18.new a ha; have := x17.size; omega)
    refine hfit.mono ?_
    rintro v H22 ⟨r, rfl, hr, b22, m22⟩
    have hiff := hr.trans (fit_place hv hI hS (fun r hr => by have := hF r hr; omega) mf)
    have y22 : Ext H H22 := Mods.ext (e9.trans x18) m22 (by simp)
    refine ⟨r, rfl, iteB_intro (fun c1 => (awake_spec H22).mono ?_) (fun c1 => (awake_spec H22).mono ?_)⟩
    · rintro v H23 ⟨rfl, e23⟩
      exact ⟨_, rfl, iteB_pos rfl ⟨by simp [hiff.1 c1], y22.trans e23⟩⟩
    · rintro v H24 ⟨rfl, e24⟩
      have hne : (placeV F S).1 ≠ 0 := fun h => by have := hiff.2 h; rw [c1] at this; cases this
      have h19 := (placeV_refused hv hI hne).1
      have b24 := ((b17.ext e18).mods m22 (by simp; have := x17.size; have := e15.size; have := e14.size; omega)).ext e24
      refine ⟨_, rfl, iteB_pos rfl (iteB_pos (by rw [h19]; simp) ⟨_, b24.rd0 rfl, _, b24.rd (i := 1) rfl, _, b24.rd (i := 2) rfl, _, b24.rd (i := 3) rfl, ?_⟩)⟩
      have isF24 := ((isF.ext x18).mods m22 (fun a ha => by have := ownF.new a ha; simp; omega)).ext e24
      have isS24 := ((is17.ext e18).mods m22 (fun a ha => by have := ownS.new a ha; simp; omega)).ext e24
      refine (Refutes_spec H24 free items F S (placeV F S).2.2 isF24 hU isS24).mono ?_
      rintro v H25 ⟨rfl, e25⟩
      exact ⟨_, rfl, by rw [decide_eq_true (place_ref hv hI hne)], (y22.trans e24).trans e25⟩

end Go.Proofs.Ytigcheamheiopaa
