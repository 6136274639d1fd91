/-
  The program's Free and hostFree.
-/
import Derived.Test.YtigcheamheiopaaP5
import Derived.Test.YtigcheamheiopaaM5
namespace Go.Proofs.Ytigcheamheiopaa
open Go.Eng
set_option linter.unusedVariables false

theorem own_ne_new {lo : Nat} {e : TypeId} {sz : Nat} {H : Heap} {s : Sl} {xs : List Value} {b : Nat} (h : Own lo e sz H s xs) (hb : H.size ≤ b) : b ∉ blkOf s.p := by
  cases hp : s.p with
  | none => simp [blkOf]
  | some a => simp only [blkOf, List.mem_singleton]; have := h.lt a hp; omega

/-- The state of the inner loop: what is cut so far, what is left to cut. -/
structure FI (H4 : Heap) (D hs : List Rg) (e : Int) (holes : Sl) (j : Nat) (res : Sl) (b : Int) (H' : Heap) : Prop where
  ex : ∃ O : List Rg, Own H4.size t_api_Range 2 H' res (O.flatMap encR) ∧ O ++ cutR e b (hs.drop j) = D ∧ O.length ≤ 2000000
  b0 : 0 ≤ b ∧ b ≤ e
  ext : Ext H4 H'

theorem cutR_len (e : Int) : ∀ (hs : List Rg) (b : Int), (cutR e b hs).length ≤ hs.length + 1
  | [], b => by unfold cutR; split <;> simp
  | h :: hs, b => by
    unfold cutR
    split
    · have := cutR_len e hs b; simp; omega
    · have := cutR_len e hs (min e (h.1 + h.2))
      rw [List.length_append]
      split <;> simp <;> omega

theorem drop_cons {α : Type} {l : List α} (d : α) {j : Nat} (h : j < l.length) : l.drop j = l.getD j d :: l.drop (j + 1) := by
  rw [List.drop_eq_getElem_cons h]
  simp [List.getD, h]

theorem Free_inner (H4 : Heap) (hs : List Rg) (holes : Sl) (hh : Rgs H4 holes hs) (hok : ∀ r ∈ hs, RgOk r) (hl : hs.length ≤ 1024) (O0 : List Rg) (hO : O0.length ≤ 1500000) (base e : Int) (hb : 0 ≤ base ∧ base ≤ e ∧ e ≤ 4503599627370496) (I_ : Sl → Int → Heap → Prop) (M_ : Sl → Int → Heap → Nat) (res : Sl) (k : Nat) (H5 H7 : Heap) (e7 : Ext H4 H7) (hk : k ≤ 1000000)
    (ow : Own H4.size t_api_Range 2 H7 res (O0.flatMap encR)) (hI : ∀ res' H', Own H4.size t_api_Range 2 H' res' ((O0 ++ cutR e base hs).flatMap encR) → Ext H4 H' → I_ res' ((k + 1 : Nat) : Int) H' ∧ M_ res' ((k + 1 : Nat) : Int) H' < M_ res k H5) :
    ∃ I_1 : Sl → Int → Int → Heap → Prop, ∃ M_1 : Sl → Int → Int → Heap → Nat, I_1 res base 0 H7 ∧ (∀ result1 : Sl, ∀ base1 : Int, ∀ x8 : Int, ∀ H8 : Heap, I_1 result1 base1 x8 H8 → F_allocate_Free_r2 holes I_ M_ res k H5 e I_1 M_1 result1 base1 x8 H8) := by
  have hn := hh.len
  have hcl := cutR_len e hs base
  refine loop3 hs.length (fun j r b H' => ∃ O : List Rg, Own H4.size t_api_Range 2 H' r (O.flatMap encR) ∧ O ++ cutR e b (hs.drop j) = O0 ++ cutR e base hs ∧ (0 ≤ b ∧ b ≤ e) ∧ Ext H4 H') ⟨O0, ow, rfl, by omega, e7⟩ ?_
  rintro j r b H8 hj ⟨O, o8, hcut, hbb, e8⟩
  unfold F_allocate_Free_r2
  have hlen := congrArg List.length hcut
  rw [List.length_append, List.length_append] at hlen
  have on := Own.len rkRange o8
  have ek : IntKind.i64.wrap ((k : Int) + 1) = ((k + 1 : Nat) : Int) := by rw [i64_in (by omega)]; omega
  refine iteB_dec (fun c => ?_) (fun c => ?_)
  · have hjn : j < hs.length := by omega
    have hdr := drop_cons (l := hs) ((0, 0) : Rg) hjn
    obtain ⟨a, hp, r0, r1⟩ := Rgs.atN (hh.ext e8) hjn
    have hr := hok _ (getD_mem' (l := hs) (k := j) (0, 0) hjn)
    rw [hdr] at hcut
    generalize hs.getD j (0, 0) = x at *
    unfold RgOk at hr
    refine ⟨by omega, by omega, unSome_mk hp ⟨_, r0, _, r1, local_mk (vs := encR x) rfl rfl fun H10 e10 z10 b10 => ⟨_, b10.rd0 rfl, _, b10.rd (i := 1) rfl, letV_mk (x.1 + x.2) (u64_in (by omega)) ?_⟩⟩⟩
    have o10 := o8.ext e10
    have x10 := e8.trans e10
    have skip : (x.1 + x.2 ≤ b ∨ x.1 ≥ e) → CI3 hs.length (fun j r b H' => ∃ O : List Rg, Own H4.size t_api_Range 2 H' r (O.flatMap encR) ∧ O ++ cutR e b (hs.drop j) = O0 ++ cutR e base hs ∧ (0 ≤ b ∧ b ≤ e) ∧ Ext H4 H') r b (IntKind.i64.wrap ((j : Int) + 1)) H10 ∧ CM3 hs.length r b (IntKind.i64.wrap ((j : Int) + 1)) H10 < CM3 hs.length r b (j : Int) H8 := fun hsk => by
      refine next3 hjn (by omega) ⟨O, o10, ?_, hbb, x10⟩
      rw [cutR, if_pos hsk] at hcut
      exact hcut
    refine iteB_dec (fun c1 => skip (.inl c1)) (fun c1 => ⟨_, b10.rd0 rfl, iteB_dec (fun c2 => skip (.inr c2)) (fun c2 => ?_)⟩)
    rw [cutR, if_neg (by omega)] at hcut
    refine ⟨fun r' H' => Own H4.size t_api_Range 2 H' r' ((O ++ (if x.1 > b then [(b, x.1 - b)] else [])).flatMap encR) ∧ Ext H4 H', ⟨_, b10.rd0 rfl, iteB_dec (fun c3 => ⟨_, b10.rd0 rfl, ?_⟩) (fun c3 => ⟨by rw [if_neg c3, List.append_nil]; exact o10, x10⟩)⟩, ?_⟩
    · rw [u64_in (n := x.1 - b) (by omega)]
      refine apR rkRange (b, x.1 - b) (lo := H4.size) o10 (by omega) x10.size ?_
      intro s' H' o' n' m'
      exact ⟨by rw [if_pos c3]; exact o', Mods.ext x10 m' (blkOf_new o10.new)⟩
    · rintro r' H13 ⟨o13, e13⟩
      unfold F_allocate_Free_k1
      refine letV_mk (min e (x.1 + x.2)) (by split <;> omega) (next3 hjn (by omega) ⟨_, o13, ?_, by omega, e13⟩)
      rw [← hcut, List.append_assoc]
  · obtain rfl : j = hs.length := by omega
    rw [List.drop_length, cutR] at hcut
    refine iteB_dec (fun c1 => ?_) (fun c1 => ?_)
    · rw [if_pos c1] at hcut
      rw [u64_in (n := e - b) (by omega)]
      refine apR rkRange (b, e - b) (lo := H4.size) o8 (by omega) e8.size ?_
      intro s' H' o' n' m'
      rw [ek]
      rw [hcut] at o'
      exact hI s' H' o' (Mods.ext e8 m' (blkOf_new o8.new))
    · rw [if_neg c1, List.append_nil] at hcut
      rw [hcut] at o8
      rw [ek]
      exact hI r H8 o8 e8

theorem Free_spec (H : Heap) (s t : Sl) (l f : List Rg) (h : Rgs H s l) (hf : Rgs H t f) (hu : U64L l) (hfu : U64L f) :
    CallsH Try.prog n_allocate_Free #[.slice s.p s.n s.c, .slice t.p t.n t.c] H (RgP (if ValidR l ∧ ValidR f then freeF l f else []) H) := by
  refine F_allocate_Free_ok _ _ ?_
  unfold F_allocate_Free
  have no : ¬ (ValidR l ∧ ValidR f) → ∀ H', Ext H H' → RgP (if ValidR l ∧ ValidR f then freeF l f else []) H (.slice none 0 0) H' := fun hn H' e => by
    rw [if_neg hn]
    exact ⟨⟨none, 0, 0⟩, rfl, Own.nil _ _ _ _, e⟩
  refine (validRanges_spec H s l h hu).mono ?_
  rintro v H1 ⟨rfl, e1⟩
  refine ⟨_, rfl, iteB_not (fun c => no (fun hh => by simp at c; exact c hh.1) H1 e1) (fun c => (validRanges_spec H1 t f (hf.ext e1) hfu).mono ?_)⟩
  rintro v H2 ⟨rfl, e2⟩
  have x2 := e1.trans e2
  refine ⟨_, rfl, iteB_not (fun d => no (fun hh => by simp at d; exact d hh.2) H2 x2) (fun d => ?_)⟩
  have hvl : ValidR l := by simpa using c
  have hvf : ValidR f := by simpa using d
  rw [if_pos ⟨hvl, hvf⟩, ← cutL_eq (fun x hx => (hvl.2 x hx).1) (fun x hx => (hvf.2 x hx).1)]
  obtain ⟨vm, am⟩ := hvl.merge
  obtain ⟨vf, af⟩ := hvf.merge
  refine (merged_spec H2 t f (hf.ext x2) hvf).mono ?_
  rintro v H3 ⟨holes, rfl, o3, e3⟩
  have x3 := x2.trans e3
  refine ⟨holes, rfl, (merged_spec H3 s l (h.ext x3) hvl).mono ?_⟩
  rintro v H4 ⟨m, rfl, o4, e4⟩
  have isM := Own.is rkRange o4
  have isF := (Own.is rkRange o3).ext e4
  generalize mergeF l = M at *
  generalize mergeF f = F at *
  have hM := vm.1
  have hF := vf.1
  have hmn := isM.len
  have hlen : ∀ k, k ≤ M.length → ((M.take k).flatMap (fun r => cutR (r.1 + r.2) r.1 F)).length ≤ k * 1025 := fun k hk => by
    induction k with
    | zero => simp
    | succ k ih =>
      have := ih (by omega)
      rw [take_succ_d ((0, 0) : Rg) (show k < M.length by omega), List.flatMap_append, List.length_append]
      have := cutR_len ((M.getD k (0, 0)).1 + (M.getD k (0, 0)).2) F (M.getD k (0, 0)).1
      simp only [List.flatMap_cons, List.flatMap_nil, List.append_nil]
      omega
  refine ⟨m, rfl, ?_⟩
  refine loop2 M.length (fun k r H' => Own H4.size t_api_Range 2 H' r (((M.take k).flatMap (fun r => cutR (r.1 + r.2) r.1 F)).flatMap encR) ∧ Ext H4 H') ⟨Own.nil _ _ _ _, .refl _⟩ ?_
  rintro k r H5 hk ⟨o5, e5⟩
  unfold F_allocate_Free_r3
  refine iteB_dec (fun c1 => ?_) (fun c1 => ?_)
  · have hkn : k < M.length := by omega
    obtain ⟨a, hp, r0, r1⟩ := Rgs.atN (isM.ext e5) hkn
    have hr := vm.2 _ (getD_mem' (l := M) (k := k) (0, 0) hkn)
    have htk := take_succ_d (l := M) ((0, 0) : Rg) hkn
    have hl5 := hlen k hk
    have hk2 : k * 1025 ≤ 1024 * 1025 := Nat.mul_le_mul_right _ (by omega)
    generalize M.getD k (0, 0) = x at *
    unfold RgOk at hr
    refine ⟨by omega, by omega, unSome_mk hp ⟨_, r0, _, r1, local_mk (vs := encR x) rfl rfl fun H7 e7 z7 b7 => ⟨_, b7.rd0 rfl, _, b7.rd0 rfl, _, b7.rd (i := 1) rfl, letV_mk (x.1 + x.2) (u64_in (by omega)) ?_⟩⟩⟩
    refine Free_inner H4 F holes isF vf.2 hF _ (by omega) x.1 (x.1 + x.2) (by omega) _ _ r k H5 H7 (e5.trans e7) (by omega) (o5.ext e7) (fun res' H' ow' e' => ?_)
    rw [← i64_succ (by omega)]
    refine next2 hkn (by omega) ⟨?_, e'⟩
    rw [htk, List.flatMap_append]
    simp only [List.flatMap_cons, List.flatMap_nil, List.append_nil]
    exact ow'
  · obtain rfl : k = M.length := by omega
    rw [List.take_length] at o5
    exact ⟨r, rfl, own_lo o5 (x3.trans e4).size, (x3.trans e4).trans e5⟩

theorem hostFree_spec (h : Host) (s : HostS) (c : Int) (H : Heap) (m : HostM H h s) (hv : ValidH h) : CallsH Try.prog n_allocate_hostFree #[hostV h s, .int .i64 c] H (RgP (spaceF h c) H) := by
  refine F_allocate_hostFree_ok _ _ _ _ _ _ _ _ _ ?_
  unfold F_allocate_hostFree
  refine push_mk (vs := hostL h s) fun H1 e1 z1 b1 => ?_
  obtain ⟨p0, p1, p2, p3, p4, p5, p6, p7⟩ := Blk.host b1
  have m1 := m.ext e1
  have a1 := hv.io.2.1; have a2 := hv.fio.2.1; have a3 := hv.mem.2.1; have a4 := hv.fix.2.1; have a5 := hv.high.2.1
  refine iteB_beq (fun d => ⟨_, p1, _, p4, (Free_spec H1 s.io s.fio h.io h.fio m1.io m1.fio m.uio m.ufio).mono ?_⟩) (fun d => iteB_beq (fun d1 => ⟨_, p2, _, p5, (Free_spec H1 s.mem s.fix h.mem h.fix m1.mem m1.fix m.umem m.ufix).mono ?_⟩) (fun d1 => ⟨_, p3, _, p5, (Free_spec H1 s.high s.fix h.high h.fix m1.high m1.fix m.uhigh m.ufix).mono ?_⟩))
  · rintro v H2 ⟨o, rfl, ow, e2⟩
    rw [if_pos ⟨a1, a2⟩] at ow
    refine ⟨o, rfl, o, rfl, ?_, e1.trans e2⟩
    unfold spaceF
    rw [if_pos d]
    exact own_lo ow e1.size
  · rintro v H2 ⟨o, rfl, ow, e2⟩
    rw [if_pos ⟨a3, a4⟩] at ow
    refine ⟨o, rfl, o, rfl, ?_, e1.trans e2⟩
    unfold spaceF
    rw [if_neg d, if_pos d1]
    exact own_lo ow e1.size
  · rintro v H2 ⟨o, rfl, ow, e2⟩
    rw [if_pos ⟨a5, a4⟩] at ow
    refine ⟨o, rfl, o, rfl, ?_, e1.trans e2⟩
    unfold spaceF
    rw [if_neg d, if_neg d1]
    exact own_lo ow e1.size

end Go.Proofs.Ytigcheamheiopaa
