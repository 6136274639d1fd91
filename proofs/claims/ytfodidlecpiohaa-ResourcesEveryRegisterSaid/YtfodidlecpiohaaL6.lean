/-
  ResourcesEveryRegister, the law.
-/
import Derived.Test.YtfodidlecpiohaaL5
namespace Go.Proofs.Ytfodidlecpiohaa
open Go.Eng

theorem offN_le {T : List FS} {high : Bool} {i : Nat} (hi : i ≤ T.length) : offN T high i ≤ (needsAll T high).length := by
  have := range_add i (T.length - i) (needsAt T high)
  rw [show i + (T.length - i) = T.length by omega] at this
  unfold needsAll offN
  rw [this, List.length_append]
  omega
theorem offN_all (T : List FS) (high : Bool) : offN T high T.length = (needsAll T high).length := rfl

theorem law_everyRegister (H : Heap) (s : Sl) (L0 : List FS) (high : Bool) (h : Topo H s L0) (hl : L0.length ≤ 9223372036854775807) (hb : ∀ x ∈ L0, x.1.bars.length ≤ 9223372036854775807) :
    CallsH Try.prog n_law20_ResourcesEveryRegister #[.slice s.p s.n s.c, .bool high] H (BoolP true H) := by
  refine F_law20_ResourcesEveryRegister_ok _ _ ?_
  unfold F_law20_ResourcesEveryRegister
  refine (gTopo_spec H s L0 30 (by omega) h hl hb).mono ?_
  rintro v H1 ⟨t, T, rfl, hT, hv, hT30, e1⟩
  refine ⟨t, rfl, (Needs_spec T t high H1 hT).mono ?_⟩
  intro v H2 h2
  obtain ⟨a, ea, A, rfl, iA, cA, e2⟩ := h2.out hv
  refine ⟨a, ea, rfl, fun b H' => b = (ea != 0) ∧ Ext H2 H', ?_, ?_⟩
  · refine (awake_spec H2).mono ?_
    rintro v H3 ⟨rfl, e3⟩
    exact ⟨_, rfl, iteB_neg rfl ⟨rfl, e3⟩⟩
  rintro b H4 ⟨rfl, e4⟩
  have x4 := (e1.trans e2).trans e4
  unfold F_law20_ResourcesEveryRegister_k4
  rcases cA with ⟨rfl, rfl⟩ | ⟨rfl, rfl⟩
  case inr =>
    refine iteB_pos rfl (iteB_pos rfl ((awake_spec H4).mono ?_))
    rintro v H5 ⟨rfl, e5⟩
    exact ⟨_, rfl, rfl, x4.trans e5⟩
  refine iteB_neg rfl ?_
  have iA4 := iA.ext e4
  have hT4 := (hT.ext e2).ext e4
  have nA := iA.len
  have nT := hT.len
  have lA := out_len (high := high) (e := 0) hv (.inl ⟨rfl, rfl⟩)
  have hT64 := hv.1
  refine loop2 T.length (fun i (k : Int) H' => k = offN T high i ∧ H' = H4) ⟨rfl, rfl⟩ ?_
  rintro i k H6 hi ⟨rfl, rfl⟩
  unfold F_law20_ResourcesEveryRegister_r3
  refine iteB_d (fun c => ?_) (fun c => ⟨?_, x4⟩)
  rotate_left
  · obtain rfl : i = T.length := by omega
    rw [offN_all]; simp; omega
  have hiT : i < T.length := by omega
  obtain ⟨S, hS⟩ := needsAt_own (high := high) hiT
  have hB := hT4.barsAt hiT
  have hbn := hB.len
  obtain ⟨p, hp, hr⟩ := hT4.at hiT
  have r10 := (rdFn hr).2.2.2.2.2.2.2.2.2.2
  have hbl := (hv.2 i hiT).va.bl
  have hrg : regs (fnAt T i).bridge ≤ 6 := by unfold regs; split <;> omega
  have hown : needsAt T high i = regL T high i (fnAt T i).bars (fnAt T i).bars.length ++ winAll T high i (fun c => if c < 3 then S (i * 3 + c) else []) := hS
  generalize slAt T i = bs at *
  generalize hBB : (fnAt T i).bars = B at *
  generalize hW : winAll T high i (fun c => if c < 3 then S (i * 3 + c) else []) = Wn at *
  have hwneg : ∀ x ∈ Wn, x.2.1 < 0 := fun x hx => winAll_neg (by rw [hW]; exact hx)
  have hoff : offN T high (i + 1) = offN T high i + ((regL T high i B B.length).length + Wn.length) := by rw [offN_succ, hown, List.length_append]
  have hoffle := offN_le (high := high) (i := i + 1) (T := T) (by omega)
  refine loop2 B.length (fun j (k1 : Int) H' => k1 = ((offN T high i + (regL T high i B j).length : Nat) : Int) ∧ H' = H6) ⟨by simp [regL], rfl⟩ ?_
  rintro j k1 H7 hj ⟨rfl, rfl⟩
  unfold F_law20_ResourcesEveryRegister_r2
  have hle := regL_len_le (T := T) (high := high) (i := i) hj
  refine ⟨by omega, by omega, unSome_mk hp ⟨bs, r10, iteB_d (fun c1 => ?_) (fun c1 => ?_)⟩⟩
  · have hjn : j < B.length := by omega
    obtain ⟨q, hq, r0, r1⟩ := Bars.atN hB hjn
    refine ⟨by omega, by omega, unSome_mk hp ⟨bs, r10, by omega, by omega, unSome_mk hq ⟨_, r0, iteB_beq (fun c2 => ?_) (fun c2 => ?_)⟩⟩⟩
    · refine letV_mk _ rfl (next2 hjn (by omega) ⟨?_, rfl⟩)
      simp [regL, c2]
    · have hat := regL_at (T := T) (high := high) (i := i) hjn c2
      have hlt := (List.getElem?_eq_some_iff.1 hat).1
      have hget : (needsAll T high)[offN T high i + (regL T high i B j).length]? = some ((i : Int), (j : Int), classF T high i (bk B j), bz B j) := by
        rw [needsAll_at hiT (by rw [hown, List.length_append]; omega), hown, List.getElem?_append_left hlt]
        exact hat
      have hlt2 := (List.getElem?_eq_some_iff.1 hget).1
      obtain ⟨u, hu, hru⟩ := iA4.get hget
      have hr0 := hru 0 _ rfl
      rw [add_add'] at hr0
      have hr1 := hru 1 _ rfl
      have hr3 := hru 3 _ rfl
      generalize hK : offN T high i + (regL T high i B j).length = K at *
      refine iteB_neg (by simp; omega) ⟨by omega, by omega, unSome_mk hu ⟨_, by rw [Int.toNat_natCast]; exact hr0, iteB_neg (by simp) ⟨by omega, by omega, unSome_mk hu ⟨_, by rw [Int.toNat_natCast]; exact hr1, iteB_neg (by simp) ⟨by omega, by omega, unSome_mk hu ⟨_, by rw [Int.toNat_natCast]; exact hr3, by omega, by omega, unSome_mk hp ⟨bs, r10, by omega, by omega, unSome_mk hq ⟨_, r1, iteB_neg (by simp) ?_⟩⟩⟩⟩⟩⟩⟩⟩
      refine letV_mk _ (i64_succ (by omega)) (letV_mk _ rfl (next2 hjn (by omega) ⟨?_, rfl⟩))
      simp [regL, c2]; omega
  · obtain rfl : j = B.length := by omega
    refine ⟨fun k3 H' => H' = H7 ∧ ∃ w, k3 = ((offN T high i + w : Nat) : Int) ∧ (regL T high i B B.length).length ≤ w ∧ w ≤ (regL T high i B B.length).length + Wn.length, fun k3 _ => (needsAll T high).length - k3.toNat, ⟨rfl, _, rfl, Nat.le_refl _, by omega⟩, ?_⟩
    rintro k3 H8 ⟨rfl, w, rfl, hw1, hw2⟩
    unfold F_law20_ResourcesEveryRegister_r1
    by_cases hww : w < (regL T high i B B.length).length + Wn.length
    · have hget : (needsAll T high)[offN T high i + w]? = some (Wn[w - (regL T high i B B.length).length]'(by omega)) := by
        rw [needsAll_at hiT (by rw [hown, List.length_append]; omega), hown, List.getElem?_append_right hw1]
        simp
      have hmem : Wn[w - (regL T high i B B.length).length]'(by omega) ∈ Wn := List.getElem_mem _
      have hneg := hwneg _ hmem
      have hfst : (Wn[w - (regL T high i B B.length).length]'(by omega)).1 = i := by
        have : Wn[w - (regL T high i B B.length).length]'(by omega) ∈ ownL T high i S := by rw [← hS, hown]; exact List.mem_append_right _ hmem
        exact (ownL_pref _ _ _ _ _ this).1
      generalize Wn[w - (regL T high i B B.length).length]'(by omega) = x at *
      have hlt2 := (List.getElem?_eq_some_iff.1 hget).1
      obtain ⟨u, hu, hru⟩ := iA4.get hget
      have hr0 := hru 0 _ rfl
      rw [add_add'] at hr0
      have hr1 := hru 1 _ rfl
      refine iteB_pos (by simp; omega) ⟨by omega, by omega, unSome_mk hu ⟨_, by rw [Int.toNat_natCast]; exact hr0, iteB_pos (by simp [hfst]) ⟨by omega, by omega, unSome_mk hu ⟨_, by rw [Int.toNat_natCast]; exact hr1, iteB_pos (by simp; omega) ?_⟩⟩⟩⟩
      refine letV_mk _ (i64_succ (by omega)) ⟨⟨rfl, w + 1, rfl, by omega, by omega⟩, by dsimp only; omega⟩
    · obtain rfl : w = (regL T high i B B.length).length + Wn.length := by omega
      rw [← hoff]
      have fin : CI2 T.length (fun i (k : Int) H' => k = offN T high i ∧ H' = H8) ((offN T high (i + 1) : Nat) : Int) (IntKind.i64.wrap ((i : Int) + 1)) H8 ∧ CM2 T.length ((offN T high (i + 1) : Nat) : Int) (IntKind.i64.wrap ((i : Int) + 1)) H8 < CM2 T.length ((offN T high i : Nat) : Int) (i : Int) H8 := next2 hiT (by omega) ⟨rfl, rfl⟩
      refine iteB_d (fun d => ?_) (fun d => letV_mk _ rfl fin)
      have hlt : offN T high (i + 1) < (needsAll T high).length := by omega
      have hget : (needsAll T high)[offN T high (i + 1)]? = some ((needsAll T high)[offN T high (i + 1)]) := by simp [hlt]
      have hne := needsAll_next hiT hget
      obtain ⟨u, hu, hru⟩ := iA4.get hget
      have hr0 := hru 0 _ rfl
      rw [add_add'] at hr0
      exact ⟨by omega, by omega, unSome_mk hu ⟨_, by rw [Int.toNat_natCast]; exact hr0, iteB_neg (by simpa using hne) (letV_mk _ rfl fin)⟩⟩

end Go.Proofs.Ytfodidlecpiohaa
