/-
  The reference's Vectors.
-/
import Derived.Test.YtinhkngomojheaaI6
namespace Go.Proofs.Ytinhkngomojheaa
open Go.Eng
set_option linter.unusedVariables false

theorem vec_is {v : Int} (hv : v = 0 ∨ v = 1 ∨ v = 2 ∨ v = 4 ∨ v = 8 ∨ v = 16 ∨ v = 32) (s : Nat) (hs : s ≤ 5) :
    v = IntKind.i64.wrap (1 * 2 ^ (min (IntKind.u64.wrap (s : Int)).toNat IntKind.i64.bits)) ↔ (0 < v ∧ lg v = s) := by
  have h : s = 0 ∨ s = 1 ∨ s = 2 ∨ s = 3 ∨ s = 4 ∨ s = 5 := by omega
  rcases h with rfl | rfl | rfl | rfl | rfl | rfl <;> rcases hv with rfl | rfl | rfl | rfl | rfl | rfl | rfl <;> decide

/-- The two lists that are collected, as they stand. -/
structure VG (U S : List Int) (H2 : Heap) (users sizes : Sl) (H' : Heap) : Prop where
  u : Own H2.size t_int 1 H' users (U.flatMap (Go.Eng.encI .i64))
  s : Own H2.size t_int 1 H' sizes (S.flatMap (Go.Eng.encI .i64))
  ne : ∀ a b, users.p = some a → sizes.p = some b → a.block ≠ b.block
  ext : Ext H2 H'

/-- What function 'k' adds, so far as its sizes up to 's' have been tried. -/
def addU (T : List FS) (k s : Nat) : List Int := if 0 < (fnAt T k).vec ∧ lg (fnAt T k).vec < s then [(k : Int)] else []
def addS (T : List FS) (k s : Nat) : List Int := if 0 < (fnAt T k).vec ∧ lg (fnAt T k).vec < s then [lg (fnAt T k).vec] else []

theorem rvec_round (T : List FS) (l : Sl) (H2 : Heap) (h2 : Topo H2 l T) (hv : ValidT T) (k : Nat) (hk : k < T.length) (I_ : Sl → Sl → Int → Heap → Prop) (M_ : Sl → Sl → Int → Heap → Nat) (sizes who : Sl) (H4 : Heap) (st : VS T H2 k who sizes H4)
    (hI : ∀ sizes1 who1 H5, VS T H2 (k + 1) who1 sizes1 H5 → I_ sizes1 who1 ((k + 1 : Nat) : Int) H5 ∧ M_ sizes1 who1 ((k + 1 : Nat) : Int) H5 < M_ sizes who k H4) :
    ∃ I_1 : Sl → Sl → Int → Heap → Prop, ∃ M_1 : Sl → Sl → Int → Heap → Nat, I_1 sizes who 0 H4 ∧ (∀ sizes1 : Sl, ∀ who1 : Sl, ∀ s : Int, ∀ H5 : Heap, I_1 sizes1 who1 s H5 → F_ref21_Vectors_r1 l I_ M_ sizes who k H4 I_1 M_1 sizes1 who1 s H5) := by
  have hvec := vec_pow (hv.2 k hk).va
  have hul := useN_len T k
  have hul' : (uF T k).length = (useN T k).length := by simp [uF]
  have hsl' : (sF T k).length = (useN T k).length := by simp [sF]
  have hv1 := hv.1
  have hn := h2.len
  have hlr := lg_range (fnAt T k).vec
  refine loop3 6 (fun s z u H' => VG (uF T k ++ addU T k s) (sF T k ++ addS T k s) H2 u z H') ?_ ?_
  · have e1 : addU T k 0 = [] := by unfold addU; rw [if_neg (by omega)]
    have e2 : addS T k 0 = [] := by unfold addS; rw [if_neg (by omega)]
    rw [e1, e2, List.append_nil, List.append_nil]
    exact ⟨st.u, st.s, st.ne, st.ext⟩
  rintro s sizes1 who1 H5 hs sg
  unfold F_ref21_Vectors_r1
  refine iteB_dec (fun d => ?_) (fun d => ?_)
  · obtain ⟨a, hpa, hr⟩ := (h2.ext sg.ext).at hk
    have p9 := (rdFn hr).2.2.2.2.2.2.2.2.2.1
    have hiff := vec_is hvec s (by omega)
    have u0 : 0 ≤ IntKind.u64.wrap (s : Int) := by rw [u64_in (by omega)]; omega
    have la : (addU T k s).length ≤ 1 := by unfold addU; split <;> simp
    have lb : (addS T k s).length ≤ 1 := by unfold addS; split <;> simp
    have un := Own.len rkInt sg.u
    have sn := Own.len rkInt sg.s
    rw [List.length_append] at un sn
    refine ⟨by omega, by omega, unSome_mk hpa ⟨_, p9, u0, iteB_beq (fun c => ?_) (fun c => ?_)⟩⟩
    · obtain ⟨c1, c2⟩ := hiff.1 c
      have ea : addU T k s = [] := by unfold addU; rw [if_neg (by omega)]
      have eb : addS T k s = [] := by unfold addS; rw [if_neg (by omega)]
      have ea1 : addU T k (s + 1) = [(k : Int)] := by unfold addU; rw [if_pos (by omega)]
      have eb1 : addS T k (s + 1) = [(s : Int)] := by unfold addS; rw [if_pos (by omega), c2]
      rw [ea, eb, List.append_nil, List.append_nil] at sg
      refine apRat rkInt (s : Int) (lo := H2.size) sg.s (by omega) sg.ext.size ?_
      intro sizes2 H7 o7 n7 m7 at7
      have e7 : Ext H2 H7 := Mods.ext sg.ext m7 (blkOf_new sg.s.new)
      have ou := sg.u.mods m7 (fun a ha => by
        cases hz : sizes1.p with
        | none => simp [blkOf]
        | some b => simp only [blkOf, List.mem_singleton]; exact fun e => sg.ne a b ha hz e)
      have hne7 : ∀ a b, who1.p = some a → sizes2.p = some b → a.block ≠ b.block := fun a b ha hb => by
        rcases at7 b hb with h1 | h1
        · cases hz : sizes1.p with
          | none => rw [hz] at h1; simp [blkOf] at h1
          | some c => rw [hz] at h1; simp only [blkOf, List.mem_singleton] at h1; rw [h1]; exact sg.ne a c ha hz
        · have := sg.u.lt a ha; omega
      refine apRat rkInt (k : Int) (lo := H2.size) ou (by omega) e7.size ?_
      intro who2 H9 o9 n9 m9 at9
      refine letV_mk _ rfl (next3 (by omega) (by omega) ⟨by rw [ea1]; exact o9, ?_, fun a b ha hb => ?_, Mods.ext e7 m9 (blkOf_new ou.new)⟩)
      · rw [eb1]
        exact o7.mods m9 (fun b hb => by
          cases hz : who1.p with
          | none => simp [blkOf]
          | some a => simp only [blkOf, List.mem_singleton]; exact fun e => hne7 a b hz hb e.symm)
      · rcases at9 a ha with h1 | h1
        · cases hz : who1.p with
          | none => rw [hz] at h1; simp [blkOf] at h1
          | some c => rw [hz] at h1; simp only [blkOf, List.mem_singleton] at h1; rw [h1]; exact hne7 c b hz hb
        · have := o7.lt b hb; omega
    · have ea : addU T k (s + 1) = addU T k s := by
        unfold addU
        by_cases q : 0 < (fnAt T k).vec ∧ lg (fnAt T k).vec < s
        · rw [if_pos q, if_pos (by omega)]
        · rw [if_neg q, if_neg (fun h => c (hiff.2 (by omega)))]
      have eb : addS T k (s + 1) = addS T k s := by
        unfold addS
        by_cases q : 0 < (fnAt T k).vec ∧ lg (fnAt T k).vec < s
        · rw [if_pos q, if_pos (by omega)]
        · rw [if_neg q, if_neg (fun h => c (hiff.2 (by omega)))]
      exact letV_mk _ rfl (next3 (by omega) (by omega) (by rw [ea, eb]; exact sg))
  · obtain rfl : s = 6 := by omega
    have hus := useN_succ T k
    have ea : uF T k ++ addU T k 6 = uF T (k + 1) := by
      unfold uF addU
      rw [hus, List.map_append]
      by_cases q : 0 < (fnAt T k).vec
      · rw [if_pos ⟨q, by omega⟩, if_pos q]; rfl
      · rw [if_neg (fun h => q h.1), if_neg q]; rfl
    have eb : sF T k ++ addS T k 6 = sF T (k + 1) := by
      unfold sF addS
      rw [hus, List.map_append]
      by_cases q : 0 < (fnAt T k).vec
      · rw [if_pos ⟨q, by omega⟩, if_pos q]; rfl
      · rw [if_neg (fun h => q h.1), if_neg q]; rfl
    rw [ea, eb] at sg
    refine letV_mk ((k + 1 : Nat) : Int) (by rw [i64_in (by omega)]; omega) (hI _ _ _ ⟨sg.u, sg.s, sg.ne, sg.ext⟩)

theorem rVectors_spec (T : List FS) (s : Sl) (H : Heap) (h : Topo H s T) : CallsH Try.prog n_ref21_Vectors #[.slice s.p s.n s.c] H (VecP (vecV T) H) := by
  refine F_ref21_Vectors_ok _ ?_
  unfold F_ref21_Vectors
  have hn := h.len
  refine push_mk (vs := encC noCert) fun H1 e1 z1 b1 => (rVal_spec T s H1 (h.ext e1)).mono ?_
  rintro v H2 ⟨rfl, e2⟩
  have x2 := e1.trans e2
  refine ⟨_, rfl, iteB_not (fun c => ?_) (fun c => ?_)⟩
  · have hnv : ¬ ValidT T := by simpa using c
    have hvv : vecV T = (1, [], noCert) := by unfold vecV; rw [if_neg hnv]
    refine cert_wr (c0 := noCert) (c := noCert) (K := fun v H' => VecP (vecV T) H (.tuple #[.slice none 0 0, v, .int .i64 1]) H') (b1.ext e2) (fun H' m' _ => ?_)
    rw [hvv]
    exact ⟨⟨none, 0, 0⟩, rfl, IsS.nil _ _ _, Mods.ext x2 m' (by simp)⟩
  have hv : ValidT T := by simpa using c
  have hv1 := hv.1
  refine loop3 T.length (fun k z u H' => VS T H2 k u z H') ⟨Own.nil _ _ _ _, Own.nil _ _ _ _, fun a b ha => (by cases ha), .refl _⟩ ?_
  rintro k sizes users H4 hk st
  unfold F_ref21_Vectors_r3
  refine iteB_dec (fun d => rvec_round T s H2 (h.ext x2) hv k (by omega) _ _ sizes users H4 st (fun z u H' st' => ?_)) (fun d => ?_)
  · rw [← i64_succ (by omega)]
    exact next3 (by omega) (by omega) st'
  obtain rfl : k = T.length := by omega
  have hul := useN_len T T.length
  have hUl : (uF T T.length).length = (useN T T.length).length := by simp [uF]
  have hSl : (sF T T.length).length = (useN T T.length).length := by simp [sF]
  have hvv : vecV T = (if (placeV [(32, 208)] (sF T T.length)).1 ≠ 0 then ((placeV [(32, 208)] (sF T T.length)).1, [], (placeV [(32, 208)] (sF T T.length)).2.2)
     else (0, vecOut T.length (uF T T.length) (placeV [(32, 208)] (sF T T.length)).2.1, noCert)) := by unfold vecV; rw [if_pos hv]
  have huM := uF_mem (T := T) (k := T.length)
  have isU := Own.is rkInt st.u
  have isZ := Own.is rkInt st.s
  have x4 := x2.trans st.ext
  refine push_mk (vs := encR (32, 208)) fun H12 e12 z12 b12 => ?_
  have x12 := x4.trans e12
  have hfr : Rgs H12 ⟨some ⟨H4.size, 0, none⟩, 1, 1⟩ [(32, 208)] := IsS.of_blk encR_len b12 rfl (fun i v hv => by simpa using hv)
  refine (rPlace_spec H12 ⟨some ⟨H4.size, 0, none⟩, 1, 1⟩ sizes [(32, 208)] (sF T T.length) hfr (fun r hr => by simp at hr; subst hr; dsimp only; omega) (isZ.ext e12)).mono ?_
  rintro v H13 ⟨out, rfl, isB, tyB, e13⟩
  have x13 := x12.trans e13
  generalize hpv : placeV [(32, 208)] (sF T T.length) = pv at *
  obtain ⟨pe, pb, pc⟩ := pv
  dsimp only at isB hvv
  refine ⟨out, _, _, _, _, _, rfl, local_mk (vs := encC pc) rfl rfl fun H15 e15 z15 b15 => ?_⟩
  have x15 := x13.trans e15
  have c15 : Blk H15 H.size t_api_Certificate (encC noCert) := b1.ext ((((e2.trans st.ext).trans e12).trans e13).trans e15)
  refine iteB_bne (fun d => ?_) (fun d => ?_)
  · refine ⟨_, b15.rd0 rfl, _, b15.rd (i := 1) rfl, _, b15.rd (i := 2) rfl, _, b15.rd (i := 3) rfl, ?_⟩
    refine cert_wr (c0 := noCert) (c := pc) (K := fun v H' => VecP (vecV T) H (.tuple #[.slice none 0 0, v, .int .i64 pe]) H') c15 (fun H' m' _ => ?_)
    rw [hvv, if_pos d]
    exact ⟨⟨none, 0, 0⟩, rfl, IsS.nil _ _ _, Mods.ext x15 m' (by simp)⟩
  · obtain rfl : pe = 0 := d
    have hlB := placeV_len hpv
    rw [if_neg (by simp)] at hvv
    refine ⟨by omega, by omega, by omega, letH_mk ?_⟩
    simp only [Int.toNat_natCast]
    intro H17 h17
    have e17 : Ext H15 H17 := by rw [h17]; exact Ext.push _ _
    have o17 : OB H17 H15.size (vecSt T.length (uF T T.length) pb 0) := by
      rw [h17, hn]
      exact RB.zero H15 t_int (ints_row _) T.length (.int .i64 0) (0 : Int) rfl
    clear h17
    have un := isU.len
    refine loop1 (uF T T.length).length (fun k H' => OB H' H15.size (vecSt T.length (uF T T.length) pb k) ∧ Mods [H15.size] H17 H') ⟨o17, .refl _ _⟩ ?_
    rintro k H18 hk ⟨o18, m18⟩
    unfold F_ref21_Vectors_r2
    simp only [Int.toNat_natCast]
    have e18 : Ext H15 H18 := Mods.ext e17 m18 (by simp)
    have x18 := x15.trans e18
    refine iteB_dec (fun d1 => ?_) (fun d1 => ?_)
    · have hku : k < (uF T T.length).length := by omega
      have hkb : k < pb.length := by omega
      obtain ⟨a1, hp1, hr1⟩ := Ints.atN (isU.ext (((e12.trans e13).trans e15).trans e18)) hku
      obtain ⟨a2, hp2, hr2⟩ := Ints.atN (isB.ext (e15.trans e18)) hkb
      have bn := isB.len
      have hm := huM _ (getD_mem' (l := uF T T.length) (k := k) 0 hku)
      have hst := vecSt_succ (n := T.length) hku hkb
      have hvl := vecSt_len T.length (uF T T.length) pb k
      generalize (uF T T.length).getD k 0 = i at *
      obtain ⟨j, rfl⟩ : ∃ j : Nat, i = j := ⟨i.toNat, by omega⟩
      refine ⟨by omega, by omega, unSome_mk hp1 ⟨_, hr1, by omega, by omega, unSome_mk hp2 ⟨_, hr2, by omega, by omega, OB.ok o18 (by omega), letH_mk ?_⟩⟩⟩
      intro H19 h19
      have o19 : OB H19 H15.size (vecSt T.length (uF T T.length) pb (k + 1)) := by
        rw [h19, hst, Int.toNat_natCast]
        have := OB.set o18 (p := j) (by omega) (IntKind.i64.wrap (pb.getD k 0))
        rw [Int.toNat_natCast] at this
        exact this
      have m19 : Mods [H15.size] H18 H19 := by rw [h19]; exact mods_wr_add (by simp)
      exact letV_mk _ rfl (next1 hku (by omega) ⟨o19, m18.trans m19⟩)
    · have hkU : k = (uF T T.length).length := by omega
      rw [hkU, vecSt_all (by omega)] at o18
      refine cert_wr (c0 := noCert) (c := noCert) (K := fun v H' => VecP (vecV T) H (.tuple #[.slice (some ⟨H15.size, 0, none⟩) s.n s.n, v, .int .i64 0]) H') (c15.ext e18) (fun H' m' _ => ?_)
      rw [hvv]
      have hz := x15.size
      have hl2 : (vecOut T.length (uF T T.length) pb).length = T.length := by rw [← vecSt_all (by omega)]; exact vecSt_len _ _ _ _
      exact ⟨⟨some ⟨H15.size, 0, none⟩, s.n, s.n⟩, rfl, RB.isS (RB.mods o18 m' (by simp; have := c15.lt; omega)) s.n s.n (by rw [hl2]; exact hn), Mods.ext x18 m' (by simp)⟩

end Go.Proofs.Ytinhkngomojheaa
