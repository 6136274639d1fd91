/-
  HotplugAddThenRemove.
-/
import Derived.Test.YtnhhncjflnlfaaaB1
namespace Go.Proofs.Ytnhhncjflnlfaaa
open Go.Eng

def iota (n : Nat) : List Int := (List.range n).map (fun i : Nat => (i : Int))
theorem iota_getD {n i : Nat} (h : i < n) : (iota n).getD i 0 = i := by unfold iota; simp [List.getD, h]

theorem rem_prefix {T : List FS} {p : Int} (hv : ValidT T) (hbusy : ¬ Busy T p) : ∀ k, k ≤ T.length → remF p ((fns T).take k) = (iota k, (fns T).take k)
  | 0, _ => by simp [remF, iota]
  | k + 1, hk => by
    have ih := rem_prefix hv hbusy k (by omega)
    have hpa := (hv.2 k (by omega)).pa
    have hnb : (fnAt T k).parent ≠ p := fun h => hbusy ⟨k, by omega, h⟩
    rw [take_fns (by omega), remF_snoc, ih]
    have hg : ¬ Gone p (iota k) (fnAt T k) := by
      rintro (h | ⟨h0, h1⟩)
      · exact hnb h
      · rw [iota_getD (by omega)] at h1; omega
    unfold remS
    rw [if_neg hg]
    have hm : mvd (iota k) (fnAt T k) = fnAt T k := by
      unfold mvd
      by_cases h0 : 0 ≤ (fnAt T k).parent
      · rw [if_pos h0, iota_getD (by omega)]
        have : ((fnAt T k).parent.toNat : Int) = (fnAt T k).parent := by omega
        rw [this]
      · rw [if_neg h0]
    rw [hm]
    congr 1
    have : ((fns T).take k).length = k := by simp; omega
    unfold iota
    rw [List.range_succ, List.map_append, this]
    rfl

theorem rem_card {T C : List FS} {p : Int} (hv : ValidT T) (hbusy : ¬ Busy T p) (hport : IsPort T p) (hpar : ParOk (fns C)) : ∀ k, k ≤ C.length → remF p (fns T ++ ((fns C).map (adj p T.length)).take k) = (iota T.length ++ List.replicate k (-1), fns T)
  | 0, _ => by
    have := rem_prefix hv hbusy T.length (Nat.le_refl _)
    rw [List.take_of_length_le (by simp)] at this
    simpa using this
  | k + 1, hk => by
    have ih := rem_card hv hbusy hport hpar k (by omega)
    have hp := hpar k (by simp; omega)
    rw [getD_take_fn (by omega)] at hp
    rw [adj_take _ _ (by omega), ← List.append_assoc, remF_snoc, ih]
    have hg : Gone p (iota T.length ++ List.replicate k (-1)) (adj p T.length (fnAt C k)) := by
      unfold Gone adj
      by_cases h0 : (fnAt C k).parent = -1
      · left; dsimp only; rw [if_pos h0]
      · right
        dsimp only
        rw [if_neg h0]
        refine ⟨by omega, ?_⟩
        have hl : (iota T.length).length = T.length := by simp [iota]
        have : ((fnAt C k).parent + (T.length : Int)).toNat = T.length + (fnAt C k).parent.toNat := by omega
        rw [this, List.getD, List.getElem?_append_right (by omega), hl, Nat.add_sub_cancel_left, List.getElem?_replicate, if_pos (by omega)]
        decide
    unfold remS
    rw [if_pos hg, List.append_assoc]
    congr 1
    rw [show List.replicate k (-1 : Int) ++ [-1] = List.replicate (k + 1) (-1) from by rw [List.replicate_succ']]

theorem law_addThenRemove (H : Heap) (s c : Sl) (L C0 : List FS) (at' : Int) (hL : Topo H s L) (hC : Topo H c C0) (hl : L.length ≤ 9223372036854775807) (hb : ∀ x ∈ L, x.1.bars.length ≤ 9223372036854775807) (hcl : C0.length ≤ 9223372036854775807) (hcb : ∀ x ∈ C0, x.1.bars.length ≤ 9223372036854775807) :
    CallsH Try.prog n_law23_HotplugAddThenRemove #[.slice s.p s.n s.c, .slice c.p c.n c.c, .int .i64 at'] H (BoolP true H) := by
  refine F_law23_HotplugAddThenRemove_ok _ _ _ ?_
  unfold F_law23_HotplugAddThenRemove
  refine (gTopo_spec H s L 20 (by omega) hL hl hb).mono ?_
  intro v H1 h1
  obtain ⟨t, T, rfl, hT, hv, hT20, e1, hTb⟩ := gtopo_len h1 (by omega)
  refine ⟨t, rfl, (lport_spec T t at' H1 hT (by omega)).mono ?_⟩
  rintro v H2 ⟨p, rfl, hp, e2⟩
  refine ⟨p, rfl, F_law23_card_ok _ ?_⟩
  unfold F_law23_card
  refine (gTopo_spec H2 c C0 5 (by omega) (hC.ext (e1.trans e2)) hcl hcb).mono ?_
  intro v H3 h3
  obtain ⟨k, C, rfl, hK, hKv, hK5, e3, hKb⟩ := gtopo_len h3 (by omega)
  have hT3 := (hT.ext e2).ext e3
  refine ⟨k, rfl, k, rfl, (Add_spec T C t k p H3 hT3 hK (by omega) (fun x hx => by have := hKb x hx; omega)).mono ?_⟩
  rintro v H4 ⟨a, ea, LA, TA, rfl, hA, hfA, hTA, _, e4⟩
  have x4 := ((e1.trans e2).trans e3).trans e4
  refine ⟨a, ea, rfl, fun b H' => b = (ea != 0) ∧ Ext H4 H', ?_, ?_⟩
  · refine (awake_spec H4).mono ?_
    rintro v H5 ⟨rfl, e5⟩
    exact ⟨_, rfl, iteB_neg rfl ⟨rfl, e5⟩⟩
  rintro b H6 ⟨rfl, e6⟩
  unfold F_law23_HotplugAddThenRemove_k2
  refine iteB_bne (fun d => ?_) (fun d => ?_)
  · refine (awake_spec H6).mono ?_
    rintro v H7 ⟨rfl, e7⟩
    exact ⟨_, rfl, rfl, (x4.trans e6).trans e7⟩
  subst d
  obtain ⟨_, hport, hbusy, hg, hLA⟩ : ValidT T ∧ IsPort T p ∧ ¬ Busy T p ∧ Good T C p ∧ LA = addL T C p := by
    rcases hA with ⟨_, h, _⟩ | ⟨_, _, h, _⟩ | ⟨_, _, _, h, _⟩ | ⟨_, _, _, _, h, _⟩ | ⟨h1, h2, h3, h4, _, h5⟩
    · cases h
    · cases h
    · cases h
    · cases h
    · exact ⟨h1, h2, h3, h4, h5⟩
  have hTAl : TA.length = T.length + C.length := by
    have := congrArg List.length hfA
    rw [hLA] at this
    simp [addL] at this
    exact this
  have hval : ValidT TA := by rw [ValidT_iff, hfA, hLA]; exact hg.2
  have hfn : ∀ i, fnAt TA i = (addL T C p).getD i zFn := fun i => by rw [fnAt_fns, hfA, hLA]
  have hport' : IsPort TA p := by
    have h1 := hport.1
    refine ⟨by omega, ?_⟩
    rw [hfn]
    have : p.toNat < T.length := by omega
    unfold addL
    rw [List.getD, List.getElem?_append_left (by simpa using this), Topo.fnsAt this]
    exact hport.2
  refine (Remove_spec TA [] a ⟨none, 0, 0⟩ p H6 (hTA.ext e6) (IsS.nil _ _ _) (by simp)).mono ?_
  rintro v H8 ⟨s1, s2, s3, e, L', T', B, ix, rfl, hR, hf', hT', hB, hix, e8⟩
  have hrem : remF p (fns TA) = (iota T.length ++ List.replicate C.length (-1), fns T) := by
    have := rem_card hv hbusy hport hg.1 C.length (Nat.le_refl _)
    rw [List.take_of_length_le (by simp)] at this
    rw [hfA, hLA]
    exact this
  obtain ⟨rfl, hL', hixe⟩ : e = 0 ∧ L' = fns T ∧ ix = iota T.length ++ List.replicate C.length (-1) := by
    rcases hR with ⟨h, _⟩ | ⟨_, h, _⟩ | ⟨_, _, h1, h2, _, h3⟩
    · exact absurd hval h
    · exact absurd hport' h
    · rw [hrem] at h2 h3; exact ⟨h1, h2, h3⟩
  have hlen' : T'.length = T.length := by have := congrArg List.length hf'; rw [hL'] at this; simpa using this
  have hbl' : ∀ x ∈ T', x.1.bars.length ≤ 9223372036854775807 := fun x hx => by
    have : x.1 ∈ fns T := by rw [← hL', ← hf']; exact List.mem_map.2 ⟨x, hx, rfl⟩
    obtain ⟨y, hy, hyx⟩ := List.mem_map.1 this
    have := hTb y hy
    rw [hyx] at this
    omega
  have hT8 := ((hT3.ext e4).ext e6).ext e8
  refine ⟨s1, s2, s3, 0, rfl, iteB_neg rfl ((EqualFunc_spec T' T s1 t H8 hT' hT8 (by omega) hbl').mono ?_)⟩
  rintro v H9 ⟨q, rfl, hq, e9⟩
  have : q = true := hq.2 (by rw [hf', hL'])
  subst this
  have hna := hTA.len
  have hnt := hT.len
  have hn3 := hix.len
  have hixl : ix.length = T.length + C.length := by rw [hixe]; simp [iota]
  refine ⟨true, rfl, iteB_neg rfl (iteB_neg (by simp; omega) ?_)⟩
  refine loop1 ix.length (fun k H' => H' = H9) rfl ?_
  rintro i H10 hi rfl
  unfold F_law23_HotplugAddThenRemove_r1
  refine iteB_dec (fun c1 => ?_) (fun c1 => ⟨rfl, ((x4.trans e6).trans e8).trans e9⟩)
  have hin : i < ix.length := by omega
  obtain ⟨u, hu, hru⟩ := Ints.atN (hix.ext e9) hin
  have fin : CI ix.length (fun k H' => H' = H10) (IntKind.i64.wrap ((i : Int) + 1)) H10 ∧ CM ix.length (IntKind.i64.wrap ((i : Int) + 1)) H10 < CM ix.length (i : Int) H10 := next1 hin (by omega) rfl
  have tail : T.length ≤ i → ix.getD i 0 = -1 := fun hti => by
    rw [hixe, List.getD, List.getElem?_append_right (by simp [iota]; omega), List.getElem?_replicate, if_pos (by simp [iota]; omega)]
    rfl
  refine iteB_dec (fun c2 => ⟨by omega, by omega, unSome_mk hu ⟨_, hru, iteB_neg ?_ (iteB_neg (by simp; omega) (letV_mk _ rfl fin))⟩⟩) (fun c2 => iteB_dec (fun c3 => ⟨by omega, by omega, unSome_mk hu ⟨_, hru, iteB_neg ?_ (letV_mk _ rfl fin)⟩⟩) (fun c3 => letV_mk _ rfl fin))
  · have : ix.getD i 0 = i := by
      rw [hixe, List.getD, List.getElem?_append_left (by simp [iota]; omega)]
      have := iota_getD (n := T.length) (i := i) (by omega)
      exact this
    rw [this]; simp
  · rw [tail (by omega)]; rfl

end Go.Proofs.Ytnhhncjflnlfaaa
