/-
  The program's Vectors.
-/
import Derived.Test.YtinhkngomojheaaI4
namespace Go.Proofs.Ytinhkngomojheaa
open Go.Eng
set_option linter.unusedVariables false

theorem zip_take_succ {U bs : List Int} {k : Nat} (hu : k < U.length) (hb : k < bs.length) : (U.zip bs).take (k + 1) = (U.zip bs).take k ++ [(U.getD k 0, bs.getD k 0)] := by
  have hz : k < (U.zip bs).length := by rw [List.length_zip]; omega
  rw [take_succ_d (0, 0) hz]
  have e0 : (U.zip bs).getD k (0, 0) = (U.zip bs)[k] := by unfold List.getD; rw [List.getElem?_eq_getElem hz]; rfl
  have e1 : U.getD k 0 = U[k] := by simp [List.getD, hu]
  have e2 : bs.getD k 0 = bs[k] := by simp [List.getD, hb]
  rw [e0, e1, e2, List.getElem_zip]

def vecSt (n : Nat) (U bs : List Int) (k : Nat) : List Int := ((U.zip bs).take k).foldl (fun o x => o.set x.1.toNat (IntKind.i64.wrap x.2)) (List.replicate n 0)
theorem vecSt_succ {n : Nat} {U bs : List Int} {k : Nat} (hu : k < U.length) (hb : k < bs.length) : vecSt n U bs (k + 1) = (vecSt n U bs k).set (U.getD k 0).toNat (IntKind.i64.wrap (bs.getD k 0)) := by
  unfold vecSt
  rw [zip_take_succ hu hb, List.foldl_append]
  rfl
theorem vecSt_len (n : Nat) (U bs : List Int) (k : Nat) : (vecSt n U bs k).length = n := by
  unfold vecSt
  generalize (U.zip bs).take k = l
  have : ∀ (l : List (Int × Int)) (o : List Int), (l.foldl (fun o x => o.set x.1.toNat (IntKind.i64.wrap x.2)) o).length = o.length := by
    intro l
    induction l with
    | nil => intro o; rfl
    | cons x l ih => intro o; rw [List.foldl_cons, ih]; simp
  rw [this]
  simp
theorem vecSt_all {n : Nat} {U bs : List Int} (h : U.length = bs.length) : vecSt n U bs U.length = vecOut n U bs := by
  unfold vecSt vecOut
  rw [List.take_of_length_le (by rw [List.length_zip]; omega)]

theorem uF_mem {T : List FS} {k : Nat} : ∀ x ∈ uF T k, 0 ≤ x ∧ x < k := fun x hx => by
  obtain ⟨i, hi, rfl⟩ := List.mem_map.1 hx
  have := (List.mem_filter.1 hi).1
  simp at this
  omega

theorem placeV_len {free : List Rg} {S bs : List Int} {c : Cert} (h : placeV free S = (0, bs, c)) : bs.length = S.length := by
  unfold placeV at h
  split at h
  · cases hp : plI S (ordF S) (mergeF free) (List.replicate S.length 0) with
    | none => rw [hp] at h; simp at h
    | some x =>
      rw [hp] at h
      obtain ⟨l, b⟩ := x
      simp only [Prod.mk.injEq, true_and] at h
      have := plI_len S _ _ _ _ hp
      rw [← h.1]
      simpa using this
  · simp at h

theorem Vectors_spec (T : List FS) (s : Sl) (H : Heap) (h : Topo H s T) : CallsH Try.prog n_interrupts_Vectors #[.slice s.p s.n s.c] H (VecP (vecV T) H) := by
  refine F_interrupts_Vectors_ok _ ?_
  unfold F_interrupts_Vectors
  have hn := h.len
  refine push_mk (vs := encC noCert) fun H1 e1 z1 b1 => (eValid_spec T s H1 (h.ext e1)).mono ?_
  rintro v H2 ⟨rfl, e2⟩
  have x2 := e1.trans e2
  refine ⟨_, rfl, iteB_not (fun c => ?_) (fun c => ?_)⟩
  · have hnv : ¬ ValidT T := by simpa using c
    have hvv : vecV T = (1, [], noCert) := by unfold vecV; rw [if_neg hnv]
    refine cert_wr (c0 := noCert) (c := noCert) (K := fun v H' => VecP (vecV T) H (.tuple #[.slice none 0 0, v, .int .i64 1]) H') (b1.ext e2) (fun H' m' _ => ?_)
    rw [hvv]
    exact ⟨⟨none, 0, 0⟩, rfl, IsS.nil _ _ _, Mods.ext x2 m' (by simp)⟩
  have hv : ValidT T := by simpa using c
  have hv1 := hv.1
  refine loop3 T.length (fun k u z H' => VS T H2 k u z H') ⟨Own.nil _ _ _ _, Own.nil _ _ _ _, fun a b ha => (by cases ha), .refl _⟩ ?_
  rintro k users sizes H4 hk st
  by_cases hkT : k < T.length
  · exact vec_round T s H H2 (h.ext x2) hv k users sizes H4 _ hkT (by omega) st
  obtain rfl : k = T.length := by omega
  unfold F_interrupts_Vectors_r2
  refine iteB_neg (by simp; omega) ?_
  have hul := useN_len T T.length
  have hUl : (uF T T.length).length = (useN T T.length).length := by simp [uF]
  have hSl : (sF T T.length).length = (useN T T.length).length := by simp [sF]
  have hvv : vecV T = (if (placeV [(32, 208)] (sF T T.length)).1 ≠ 0 then ((placeV [(32, 208)] (sF T T.length)).1, [], (placeV [(32, 208)] (sF T T.length)).2.2)
     else (0, vecOut T.length (uF T T.length) (placeV [(32, 208)] (sF T T.length)).2.1, noCert)) := by unfold vecV; rw [if_pos hv]
  have huM := uF_mem (T := T) (k := T.length)
  have isU := Own.is rkInt st.u
  have isZ := Own.is rkInt st.s
  have x4 := x2.trans st.ext
  refine push_mk (vs := encR (32, 208)) fun H12 e12 z12 b12 => ?_
  have x12 := x4.trans e12
  have hfr : Rgs H12 ⟨some ⟨H4.size, 0, none⟩, 1, 1⟩ [(32, 208)] := IsS.of_blk encR_len b12 rfl (fun i v hv => by simpa using hv)
  refine (Place_spec H12 ⟨some ⟨H4.size, 0, none⟩, 1, 1⟩ sizes [(32, 208)] (sF T T.length) hfr (fun r hr => by simp at hr; subst hr; dsimp only; omega) (isZ.ext e12)).mono ?_
  rintro v H13 ⟨out, rfl, isB, tyB, e13⟩
  have x13 := x12.trans e13
  generalize hpv : placeV [(32, 208)] (sF T T.length) = pv at *
  obtain ⟨pe, pb, pc⟩ := pv
  dsimp only at isB hvv
  refine ⟨out, _, _, _, _, _, rfl, local_mk (vs := encC pc) rfl rfl fun H15 e15 z15 b15 => ?_⟩
  have x15 := x13.trans e15
  have c15 : Blk H15 H.size t_api_Certificate (encC noCert) := b1.ext ((((e2.trans st.ext).trans e12).trans e13).trans e15)
  refine iteB_bne (fun d => ?_) (fun d => ?_)
  · refine ⟨_, b15.rd0 rfl, _, b15.rd (i := 1) rfl, _, b15.rd (i := 2) rfl, _, b15.rd (i := 3) rfl, ?_⟩
    refine cert_wr (c0 := noCert) (c := pc) (K := fun v H' => VecP (vecV T) H (.tuple #[.slice none 0 0, v, .int .i64 pe]) H') c15 (fun H' m' _ => ?_)
    rw [hvv, if_pos d]
    exact ⟨⟨none, 0, 0⟩, rfl, IsS.nil _ _ _, Mods.ext x15 m' (by simp)⟩
  · obtain rfl : pe = 0 := d
    have hlB := placeV_len hpv
    rw [if_neg (by simp)] at hvv
    refine ⟨by omega, by omega, by omega, letH_mk ?_⟩
    simp only [Int.toNat_natCast]
    intro H17 h17
    have e17 : Ext H15 H17 := by rw [h17]; exact Ext.push _ _
    have o17 : OB H17 H15.size (vecSt T.length (uF T T.length) pb 0) := by
      rw [h17, hn]
      exact RB.zero H15 t_int (ints_row _) T.length (.int .i64 0) (0 : Int) rfl
    clear h17
    have un := isU.len
    refine loop1 (uF T T.length).length (fun k H' => OB H' H15.size (vecSt T.length (uF T T.length) pb k) ∧ Mods [H15.size] H17 H') ⟨o17, .refl _ _⟩ ?_
    rintro k H18 hk ⟨o18, m18⟩
    unfold F_interrupts_Vectors_r1
    simp only [Int.toNat_natCast]
    have e18 : Ext H15 H18 := Mods.ext e17 m18 (by simp)
    have x18 := x15.trans e18
    refine iteB_dec (fun d1 => ?_) (fun d1 => ?_)
    · have hku : k < (uF T T.length).length := by omega
      have hkb : k < pb.length := by omega
      obtain ⟨a1, hp1, hr1⟩ := Ints.atN (isU.ext (((e12.trans e13).trans e15).trans e18)) hku
      obtain ⟨a2, hp2, hr2⟩ := Ints.atN (isB.ext (e15.trans e18)) hkb
      have bn := isB.len
      have hm := huM _ (getD_mem' (l := uF T T.length) (k := k) 0 hku)
      have hst := vecSt_succ (n := T.length) hku hkb
      have hvl := vecSt_len T.length (uF T T.length) pb k
      generalize (uF T T.length).getD k 0 = i at *
      obtain ⟨j, rfl⟩ : ∃ j : Nat, i = j := ⟨i.toNat, by omega⟩
      refine ⟨by omega, by omega, unSome_mk hp1 ⟨_, hr1, by omega, by omega, unSome_mk hp2 ⟨_, hr2, by omega, by omega, OB.ok o18 (by omega), letH_mk ?_⟩⟩⟩
      intro H19 h19
      have o19 : OB H19 H15.size (vecSt T.length (uF T T.length) pb (k + 1)) := by
        rw [h19, hst, Int.toNat_natCast]
        have := OB.set o18 (p := j) (by omega) (IntKind.i64.wrap (pb.getD k 0))
        rw [Int.toNat_natCast] at this
        exact this
      have m19 : Mods [H15.size] H18 H19 := by rw [h19]; exact mods_wr_add (by simp)
      exact next1 hku (by omega) ⟨o19, m18.trans m19⟩
    · have hkU : k = (uF T T.length).length := by omega
      rw [hkU, vecSt_all (by omega)] at o18
      refine cert_wr (c0 := noCert) (c := noCert) (K := fun v H' => VecP (vecV T) H (.tuple #[.slice (some ⟨H15.size, 0, none⟩) s.n s.n, v, .int .i64 0]) H') (c15.ext e18) (fun H' m' _ => ?_)
      rw [hvv]
      have hz := x15.size
      have hl2 : (vecOut T.length (uF T T.length) pb).length = T.length := by rw [← vecSt_all (by omega)]; exact vecSt_len _ _ _ _
      exact ⟨⟨some ⟨H15.size, 0, none⟩, s.n, s.n⟩, rfl, RB.isS (RB.mods o18 m' (by simp; have := c15.lt; omega)) s.n s.n (by rw [hl2]; exact hn), Mods.ext x18 m' (by simp)⟩

end Go.Proofs.Ytinhkngomojheaa
