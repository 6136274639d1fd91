/-
  AllocateChecks.
-/
import Derived.Test.YtigcheamheiopaaJQ
import Derived.Test.YtigcheamheiopaaQ1
import Derived.Test.YtigcheamheiopaaM9
namespace Go.Proofs.Ytigcheamheiopaa
open Go.Eng
set_option linter.unusedVariables false

theorem AssignIs.u64 {T : List FS} {h : Host} {e : Int} {A : List Asg} {c : Cert} (ha : AssignIs T h e A c) : A.length ≤ 1000 ∧ ∀ i, i < A.length → U64 (A.getD i zA).2 := by
  rcases ha with ⟨_, _, rfl, _⟩ | ⟨_, e0, N, hN, ⟨_, _, rfl, _⟩ | ⟨_, _, _, rfl, _⟩ | ⟨_, _, _, rfl, _⟩⟩
  · exact ⟨by simp, fun i hi => by simp at hi⟩
  · exact ⟨by simp, fun i hi => by simp at hi⟩
  · exact ⟨by simp, fun i hi => by simp at hi⟩
  · have h1 := hN.len
    have h0 := rootR_ok T N h 3
    have h2 := brR_ok T N (rootR T N h 3).2.2 h0.1 (3 * T.length)
    have hl : (brR T N (rootR T N h 3).2.2 (3 * T.length)).length = N.length := by rw [h2.2, h0.2]
    refine ⟨by rw [zip_len hl]; exact h1, fun i hi => ?_⟩
    rw [zip_len hl] at hi
    have e : (N.zip (brR T N (rootR T N h 3).2.2 (3 * T.length))).getD i zA = (N.getD i (0, 0, 0, 0), (brR T N (rootR T N h 3).2.2 (3 * T.length)).getD i 0) := by
      have := zip_getD hl hi
      unfold List.getD
      rw [this]
      rfl
    rw [e]
    have := h2.1 _ (getD_mem' (k := i) 0 (show i < (brR T N (rootR T N h 3).2.2 (3 * T.length)).length by omega))
    unfold U64
    dsimp only
    omega

/-- Writes to a block of hosts leave a topology alone. -/
theorem topo_hostwr {H H' : Heap} {b : Nat} {t : Sl} {T : List FS} {vs : List Value} (hb : Blk H b t_api_Host vs) (m : Mods [b] H H') (hT : Topo H t T) (ty : TyB H t.p t_api_Function) (gt : GT H T) : Topo H' t T := by
  have hlt : ∀ {q : Option Addr} {e : TypeId}, e ≠ t_api_Host → TyB H q e → ∀ a, q = some a → a.block ∉ [b] := fun {q e} he hq a ha => by
    have t1 : TyB H (some ⟨b, 0, none⟩) t_api_Host := fun a ha => by cases ha; exact ⟨_, _, hb⟩
    have := ty_ne hq t1 he a ha
    simpa [blkOf] using this
  exact ⟨hT.1.mods m (hlt (by decide) ty), fun x hx => (gt.mods m (fun p hp => hlt (by decide) hp) x hx).1⟩

/-- What stands around in AllocateChecks. -/
structure CkL (H : Heap) (T : List FS) (t : Sl) (g : Host) (gs : HostS) (hb xb : Nat) (x : Asg) (H' : Heap) : Prop where
  topo : Topo H' t T
  m : HostM H' g gs
  host : Blk H' hb t_api_Host (hostL g gs)
  x : Blk H' xb t_api_Assignment (encA x)
  ext : Ext H H'
theorem CkL.go {H : Heap} {T : List FS} {t : Sl} {g : Host} {gs : HostS} {hb xb : Nat} {x : Asg} {H' H'' : Heap} (k : CkL H T t g gs hb xb x H') (e : Ext H' H'') : CkL H T t g gs hb xb x H'' := ⟨k.topo.ext e, k.m.ext e, k.host.ext e, k.x.ext e, k.ext.trans e⟩

theorem chk_same {T : List FS} {h : Host} {A : List Asg} {b b' : Bool} (h1 : b = true ↔ ChkIs T h A) (h2 : b' = true ↔ ChkIs T h A) : (b == b') = true := by
  cases b <;> cases b' <;> simp_all

theorem checks_k1 (H : Heap) (T : List FS) (t : Sl) (g : Host) (gs : HostS) (H4 : Heap) (xb : Nat) (x : Asg) (H24 : Heap) (k : CkL H T t g gs H4.size xb x H24) (b : Sl) (A : List Asg) (isA : IsS 5 encA H24 b A) (hc : b.n ≤ b.c) (hu : ∀ i, i < A.length → U64 (A.getD i zA).2) :
    F_law21_AllocateChecks_k1 (BoolP true H) t H4 b H24 := by
  unfold F_law21_AllocateChecks_k1
  obtain ⟨p0, p1, p2, p3, p4, p5, p6, p7⟩ := Blk.host k.host
  refine ⟨_, p0, _, p1, _, p2, _, p3, _, p4, _, p5, _, p6, _, p7, _, p0, _, p1, _, p2, _, p3, _, p4, _, p5, _, p6, _, p7, (Check_spec T t g gs A b H24 k.topo k.m isA hc hu).mono ?_⟩
  rintro v H25 ⟨b1, rfl, h1, e25⟩
  refine ⟨_, rfl, e25.keeps, (rCheck_spec T t g gs A b H25 (k.go e25).topo (k.go e25).m (isA.ext e25) hc hu).mono ?_⟩
  rintro v H26 ⟨b2, rfl, h2, e26⟩
  exact ⟨_, rfl, by rw [chk_same h1 h2], (k.ext.trans e25).trans e26⟩

theorem flat_take {l : List Asg} (k : Nat) : (l.flatMap encA).take (k * 5) = (l.take k).flatMap encA := by
  induction l generalizing k with
  | nil => simp
  | cons x l ih =>
    cases k with
    | zero => simp
    | succ k =>
      rw [List.take_succ_cons, List.flatMap_cons, List.flatMap_cons, List.take_append, ← ih k, encA_len]
      rw [List.take_of_length_le (by rw [encA_len]; omega)]
      congr 2
      omega

theorem checks_k2 (H : Heap) (T : List FS) (t : Sl) (g : Host) (gs : HostS) (H1 H4 : Heap) (x : Asg) (hx : U64 x.2) (atv kind : Int) (H13 : Heap) (k : CkL H T t g gs H4.size H1.size x H13) (sa : Sl) (A : List Asg) (isA : IsS 5 encA H13 sa A) (hc : sa.n ≤ sa.c) (hl : A.length ≤ 1000) (hu : ∀ i, i < A.length → U64 (A.getD i zA).2) (q : Bool) (hq : q = false → A ≠ []) :
    F_law21_AllocateChecks_k2 (BoolP true H) atv kind H1 t H4 sa q H13 := by
  unfold F_law21_AllocateChecks_k2
  have hn := isA.len
  refine iteB_intro (fun c => checks_k1 H T t g gs H4 H1.size x H13 k sa A isA hc hu) (fun c => ?_)
  have hpos : 0 < A.length := List.length_pos_iff.2 (hq c)
  refine (Mod_spec atv (sa.n : Int) H13 (by omega) (by omega)).mono ?_
  rintro v H16 ⟨rfl, rfl⟩
  have hmr := modI_range atv (n := (sa.n : Int)) (by omega)
  obtain ⟨j, hj⟩ : ∃ j : Nat, modI atv (sa.n : Int) = j := ⟨(modI atv (sa.n : Int)).toNat, by omega⟩
  rw [hj] at hmr ⊢
  have hjA : j < A.length := by omega
  refine ⟨_, rfl, ?_⟩
  refine apA rkAsg (s := ⟨none, 0, 0⟩) (l := []) (lo := H16.size) (Own.nil _ _ _ _) isA (by dsimp only; omega) (Nat.le_refl _) ?_
  intro b H17 o17 n17 m17 _
  rw [List.nil_append] at o17
  have e17 : Ext H16 H17 := Mods.to_ext m17
  have k17 := k.go e17
  refine ⟨b, rfl, ?_⟩
  have hbn : b.n = A.length := by rw [n17]; simp
  have hbc := o17.cap
  obtain ⟨_, hrb⟩ := Own.rb encA_len (by omega) o17
  rcases hrb with ⟨h0, _⟩ | ⟨gb, hgp, hgl, rb⟩
  · rw [h0] at hpos; simp at hpos
  have hcs : CS H17 gb (b.c * 5) := by
    obtain ⟨cur, h1, h2, _, _⟩ := Own.block o17 hgp
    exact ⟨cur, _, h1, h2⟩
  have isb : ∀ H' (B : List Asg), RB H' gb t_api_Assignment 5 encA B → B.length = A.length → IsS 5 encA H' b B := fun H' B r hB => by
    have := RB.isS r b.n b.c (by omega)
    obtain ⟨p, n, c⟩ := b
    dsimp only at hgp
    subst hgp
    exact this
  have hz17 := e17.size
  have xfin : ∀ (H' : Heap) (B : List Asg), Mods [gb] H17 H' → RB H' gb t_api_Assignment 5 encA B → B.length = A.length → (∀ i, i < B.length → U64 (B.getD i zA).2) → ∃ B, IsS 5 encA H' b B ∧ b.n ≤ b.c ∧ (∀ i, i < B.length → U64 (B.getD i zA).2) ∧ Ext H16 H' := fun H' B m r hB hU => ⟨B, isb H' B r hB, hbc, hU, Mods.ext e17 m (by simpa using hgl)⟩
  have hget : A[j]? = some (A.getD j zA) := getD_get zA hjA
  have hset : ∀ y : Asg, U64 y.2 → ∀ i, i < (A.set j y).length → U64 ((A.set j y).getD i zA).2 := fun y hy i hi => by
    rw [List.length_set] at hi
    by_cases e : j = i
    · subst e
      have : (A.set j y).getD j zA = y := by simp [List.getD, hi]
      rw [this]; exact hy
    · have : (A.set j y).getD i zA = A.getD i zA := by simp [List.getD, List.getElem?_set_ne e]
      rw [this]; exact hu i hi
  have wrB : ∀ (H0 : Heap) (y : Int), Ext H17 H0 → 0 ≤ y ∧ y ≤ 18446744073709551615 → okRow H0 (((⟨gb, 0, none⟩ : Addr).add (j * 5)).add 4) 1 ∧ ∀ H', H' = wrs H0 (((⟨gb, 0, none⟩ : Addr).add (j * 5)).add 4) [.int .u64 y] → ∃ B, IsS 5 encA H' b B ∧ b.n ≤ b.c ∧ (∀ i, i < B.length → U64 (B.getD i zA).2) ∧ Ext H16 H' := fun H0 y e0 hy => by
    refine ⟨RB.ok (RB.ext rb e0) hjA (by omega), fun H' h' => ?_⟩
    subst h'
    refine xfin _ (A.set j ((A.getD j zA).1, y)) (e0.mods.trans mods_wr2) (RB.wr (RB.ext rb e0) hget (by omega) rfl) (by rw [List.length_set]) (hset _ hy)
  refine ⟨fun b' H' => ∃ B, IsS 5 encA H' b' B ∧ b'.n ≤ b'.c ∧ (∀ i, i < B.length → U64 (B.getD i zA).2) ∧ Ext H16 H', ?_, ?_⟩
  · refine iteB_beq (fun _ => ?_) (fun _ => iteB_beq (fun _ => ?_) (fun _ => iteB_beq (fun _ => ?_) (fun _ => iteB_beq (fun _ => ?_) (fun _ => iteB_beq (fun _ => ?_) (fun _ => ?_)))))
    · obtain ⟨ok, wr⟩ := wrB H17 x.2 (.refl _) hx
      refine ⟨_, k17.x.rd (i := 4) rfl, by omega, by omega, unSome_mk hgp ⟨by rw [Int.toNat_natCast]; exact ok, letH_mk (fun H' h' => ?_)⟩⟩
      rw [Int.toNat_natCast] at h'
      exact wr H' h'
    · refine ⟨_, k17.x.rd (i := 1) rfl, (Mod_spec x.1.2.1 (sa.n : Int) H17 (by omega) (by omega)).mono ?_⟩
      rintro v H19 ⟨rfl, rfl⟩
      have hmr2 := modI_range x.1.2.1 (n := (sa.n : Int)) (by omega)
      obtain ⟨j2, hj2⟩ : ∃ j : Nat, modI x.1.2.1 (sa.n : Int) = j := ⟨(modI x.1.2.1 (sa.n : Int)).toNat, by omega⟩
      rw [hj2] at hmr2 ⊢
      obtain ⟨a2, hp2, hr2⟩ := IsS.atN (isA.ext e17) zA (k := j2) (by omega)
      obtain ⟨ok, wr⟩ := wrB H19 (A.getD j2 zA).2 (.refl _) (hu j2 (by omega))
      refine ⟨_, rfl, by omega, by omega, unSome_mk hp2 ⟨_, hr2 4 _ rfl, by omega, by omega, unSome_mk hgp ⟨by rw [Int.toNat_natCast]; exact ok, letH_mk (fun H' h' => ?_)⟩⟩⟩
      rw [Int.toNat_natCast] at h'
      exact wr H' h'
    · have r4 : rd H17 (((⟨gb, 0, none⟩ : Addr).add ((j : Int).toNat * 5)).add 4) = some (.int .u64 (A.getD j zA).2) := by rw [Int.toNat_natCast]; exact RB.rd rb hget rfl
      have r3 : rd H17 (((⟨gb, 0, none⟩ : Addr).add ((j : Int).toNat * 5)).add 3) = some (.int .i64 (A.getD j zA).1.2.2.2) := by rw [Int.toNat_natCast]; exact RB.rd rb hget rfl
      obtain ⟨ok, wr⟩ := wrB H17 (IntKind.u64.wrap ((A.getD j zA).2 + IntKind.u64.wrap (1 * 2 ^ (min (IntKind.u64.wrap (A.getD j zA).1.2.2.2).toNat IntKind.u64.bits)))) (.refl _) ⟨u64_nonneg _, by have := u64_lt ((A.getD j zA).2 + IntKind.u64.wrap (1 * 2 ^ (min (IntKind.u64.wrap (A.getD j zA).1.2.2.2).toNat IntKind.u64.bits))); omega⟩
      refine ⟨by omega, by omega, unSome_mk hgp ⟨_, r4, by omega, by omega, unSome_mk hgp ⟨_, r3, u64_nonneg _, by omega, by omega, unSome_mk hgp ⟨by rw [Int.toNat_natCast]; exact ok, letH_mk (fun H' h' => ?_)⟩⟩⟩⟩
      rw [Int.toNat_natCast] at h'
      exact wr H' h'
    · refine ⟨_, k17.x.rd0 rfl, _, k17.x.rd (i := 1) rfl, _, k17.x.rd (i := 2) rfl, _, k17.x.rd (i := 3) rfl, by omega, by omega, unSome_mk hgp ⟨by rw [Int.toNat_natCast]; exact RB.ok0 rb hjA (by omega), letH_mk (fun H' h' => ?_)⟩⟩
      rw [Int.toNat_natCast] at h'
      have hw := RB.wrSub rb (i := j) (j := 0) (x := A.getD j zA) (y := (x.1, (A.getD j zA).2)) (ws := [.int .i64 x.1.1, .int .i64 x.1.2.1, .int .i64 x.1.2.2.1, .int .i64 x.1.2.2.2]) hget (by simp) rfl
      rw [add_zero'] at hw
      subst h'
      exact xfin _ _ (mods_wr_add (by simp)) hw (by rw [List.length_set]) (hset _ (hu j hjA))
    · refine ⟨by omega, by omega, ?_⟩
      rw [i64_in (n := (j : Int) + 1) (by omega)]
      refine ⟨by omega, by omega, ?_⟩
      have t1 : ((j : Int) + 1).toNat = j + 1 := by omega
      rw [t1, Int.toNat_natCast, Nat.sub_zero, Nat.sub_zero, slP0]
      have opre := Own.pre o17 (n := j) (by rw [hgp]; simp) (by omega)
      rw [flat_take] at opre
      have isd := IsS.dropS (Own.is rkAsg o17) hbc (j + 1) (by omega)
      refine apA rkAsg (s := ⟨b.p, j, b.c⟩) (l := A.take j) (src := ⟨slP b.p b.c (j + 1) 5, b.n - (j + 1), b.c - (j + 1)⟩) (ys := A.drop (j + 1)) (lo := H16.size) opre isd (by simp; omega) hz17 ?_
      intro b1 H23 o23 n23 m23 _
      refine ⟨b1, rfl, A.take j ++ A.drop (j + 1), Own.is rkAsg o23, o23.cap, fun i hi => ?_, Mods.ext e17 m23 (by rw [hgp]; simpa [blkOf] using hgl)⟩
      have hmem : (A.take j ++ A.drop (j + 1)).getD i zA ∈ A := by
        have := getD_mem' zA hi
        rcases List.mem_append.1 this with h1 | h1
        · exact List.mem_of_mem_take h1
        · exact List.mem_of_mem_drop h1
      obtain ⟨m, hm, he⟩ := List.getElem_of_mem hmem
      have := hu m hm
      rw [← he]
      simpa [List.getD, hm] using this
    · exact ⟨A, Own.is rkAsg o17, hbc, hu, e17⟩
  · rintro b' H24 ⟨B, h1, h2, h3, e24⟩
    exact checks_k1 H T t g gs H4 H1.size x H24 (k.go e24) b' B h1 h2 h3

theorem checks_k3 (H : Heap) (T : List FS) (t : Sl) (g : Host) (gs : HostS) (H1 H4 : Heap) (x : Asg) (hx : U64 x.2) (atv kind : Int) (H12 : Heap) (k : CkL H T t g gs H4.size H1.size x H12) (sa : Sl) (A : List Asg) (isA : IsS 5 encA H12 sa A) (hc : sa.n ≤ sa.c) (hl : A.length ≤ 1000) (hu : ∀ i, i < A.length → U64 (A.getD i zA).2) (e : Int) :
    F_law21_AllocateChecks_k3 (BoolP true H) atv kind H1 t H4 sa e H12 := by
  unfold F_law21_AllocateChecks_k3
  have hn := isA.len
  refine ⟨fun q H' => (q = false → A ≠ []) ∧ H' = H12, iteB_intro (fun _ => ⟨fun h => (by cases h), rfl⟩) (fun _ => ⟨fun h e => ?_, rfl⟩), ?_⟩
  · rw [hn, e] at h
    simp at h
  · rintro q H13 ⟨h1, rfl⟩
    exact checks_k2 H T t g gs H1 H4 x hx atv kind H13 k sa A isA hc hl hu q h1

theorem law_checks (H : Heap) (s : Sl) (L : List FS) (h : Host) (hs : HostS) (atv kind : Int) (x : Asg) (hx : U64 x.2) (hL : Topo H s L) (hl : L.length ≤ 9223372036854775807) (hb : ∀ x ∈ L, x.1.bars.length ≤ 9223372036854775807) (hm : HostM H h hs) :
    CallsH Try.prog n_law21_AllocateChecks #[.slice s.p s.n s.c, hostV h hs, .int .i64 atv, asgV x, .int .u8 kind] H (BoolP true H) := by
  refine F_law21_AllocateChecks_ok _ _ _ _ _ _ _ _ _ _ _ _ _ _ _ _ ?_
  unfold F_law21_AllocateChecks
  refine push_mk (vs := hostL h hs) fun H1 e1 z1 b1 => push_mk (vs := encA x) fun H2 e2 z2 b2 => ?_
  have x2 := e1.trans e2
  have b1' := b1.ext e2
  obtain ⟨p0, p1, p2, p3, p4, p5, p6, p7⟩ := Blk.host b1'
  have z8 : (hostL ⟨0, [], [], [], [], [], [], []⟩ ⟨⟨none, 0, 0⟩, ⟨none, 0, 0⟩, ⟨none, 0, 0⟩, ⟨none, 0, 0⟩, ⟨none, 0, 0⟩, ⟨none, 0, 0⟩, ⟨none, 0, 0⟩⟩).length = 8 := rfl
  refine ⟨_, p0, _, p1, _, p2, _, p3, _, p4, _, p5, _, p6, _, p7, ?_, ?_⟩
  · refine (gTopoT_spec H2 s L 24 (by omega) (hL.ext x2) hl hb).mono ?_
    rintro v H3 ⟨t, T, rfl, hT, hv, hT24, e3, ty3, gt3⟩
    have x3 := x2.trans e3
    refine ⟨t, rfl, e3.keeps, ?_, ?_⟩
    · refine (gHost_spec h hs H3 (hm.ext x3)).mono ?_
      rintro v H4 ⟨g, gs, rfl, mg, hty, _, _, e4⟩
      refine ⟨_, _, _, _, _, _, _, _, rfl, push_mk (vs := hostL ⟨0, [], [], [], [], [], [], []⟩ ⟨⟨none, 0, 0⟩, ⟨none, 0, 0⟩, ⟨none, 0, 0⟩, ⟨none, 0, 0⟩, ⟨none, 0, 0⟩, ⟨none, 0, 0⟩, ⟨none, 0, 0⟩⟩) fun H5 e5 z5 b5 => ⟨e5.keeps, b5.ok0 (Nat.le_refl 8), letH_mk ?_⟩⟩
      intro H6 h6
      have b6 : Blk H6 H4.size t_api_Host (hostL g gs) := by rw [h6]; exact b5.wr
      have m6 : Mods [H4.size] H5 H6 := by rw [h6]; exact Mods.wrs (by simp)
      have e6 : Ext H4 H6 := Mods.ext e5 m6 (by simp)
      clear h6
      have k6 : CkL H T t g gs H4.size H1.size x H6 := ⟨hT.ext (e4.trans e6), mg.ext e6, b6, b2.ext ((e3.trans e4).trans e6), (x3.trans e4).trans e6⟩
      obtain ⟨p0, p1, p2, p3, p4, p5, p6, p7⟩ := Blk.host k6.host
      refine ⟨_, p0, _, p1, _, p2, _, p3, _, p4, _, p5, _, p6, _, p7, (Assign_spec T t g gs H6 k6.topo k6.m).mono ?_⟩
      rintro v H7 ⟨o1, ea, A, ca, rfl, ha, is1, ow1, e7⟩
      obtain ⟨hAl, hAu⟩ := ha.u64
      refine ⟨o1, _, _, _, _, _, rfl, local_mk (vs := encC ca) rfl rfl fun H9 e9 z9 b9 => ?_⟩
      refine ⟨fun H' => Ext H9 H', (awake_spec H9).mono ?_, fun H12 e12 => checks_k3 H T t g gs H1 H4 x hx atv kind H12 (k6.go ((e7.trans e9).trans e12)) o1 A (is1.ext (e9.trans e12)) ow1.cap hAl hAu ea⟩
      rintro v H10 ⟨rfl, e10⟩
      refine ⟨_, rfl, iteB_neg (by simp) (iteB_beq (fun q => ?_) (fun q => e10))⟩
      subst q
      have k10 := k6.go ((e7.trans e9).trans e10)
      obtain ⟨p0, p1, p2, p3, p4, p5, p6, p7⟩ := Blk.host k10.host
      refine ⟨_, p0, _, p1, _, p2, _, p3, _, p4, _, p5, _, p6, _, p7, (Check_spec T t g gs A o1 H10 k10.topo k10.m (is1.ext (e9.trans e10)) ow1.cap hAu).mono ?_⟩
      rintro v H11 ⟨b, rfl, hbb, e11⟩
      have := hbb.2 ha.chk
      subst this
      exact ⟨_, rfl, iteB_neg (by simp) (e10.trans e11)⟩
    · refine push_mk (vs := hostL ⟨0, [], [], [], [], [], [], []⟩ ⟨⟨none, 0, 0⟩, ⟨none, 0, 0⟩, ⟨none, 0, 0⟩, ⟨none, 0, 0⟩, ⟨none, 0, 0⟩, ⟨none, 0, 0⟩, ⟨none, 0, 0⟩⟩) fun H27 e27 z27 b27 => ⟨e27.keeps, (gHost_spec h hs H27 (hm.ext (x3.trans e27))).mono ?_⟩
      rintro v H28 ⟨g, gs, rfl, mg, hty, _, _, e28⟩
      have b28 := b27.ext e28
      refine ⟨_, _, _, _, _, _, _, _, rfl, b28.ok0 (Nat.le_refl 8), letH_mk ?_⟩
      intro H6 h6
      have b6 : Blk H6 H3.size t_api_Host (hostL g gs) := by rw [h6]; exact b28.wr
      have m6 : Mods [H3.size] H28 H6 := by rw [h6]; exact Mods.wrs (by simp)
      have e6 : Ext H3 H6 := Mods.ext (e27.trans e28) m6 (by simp)
      clear h6
      have k6 : CkL H T t g gs H3.size H1.size x H6 := ⟨hT.ext e6, mg.modsT hty b28 m6, b6, b2.ext (e3.trans e6), x3.trans e6⟩
      obtain ⟨p0, p1, p2, p3, p4, p5, p6, p7⟩ := Blk.host k6.host
      refine ⟨_, p0, _, p1, _, p2, _, p3, _, p4, _, p5, _, p6, _, p7, (Assign_spec T t g gs H6 k6.topo k6.m).mono ?_⟩
      rintro v H7 ⟨o1, ea, A, ca, rfl, ha, is1, ow1, e7⟩
      obtain ⟨hAl, hAu⟩ := ha.u64
      refine ⟨o1, _, _, _, _, _, rfl, local_mk (vs := encC ca) rfl rfl fun H9 e9 z9 b9 => ?_⟩
      refine ⟨fun H' => Ext H9 H', (awake_spec H9).mono ?_, fun H12 e12 => checks_k3 H T t g gs H1 H3 x hx atv kind H12 (k6.go ((e7.trans e9).trans e12)) o1 A (is1.ext (e9.trans e12)) ow1.cap hAl hAu ea⟩
      rintro v H10 ⟨rfl, e10⟩
      refine ⟨_, rfl, iteB_neg (by simp) (iteB_beq (fun q => ?_) (fun q => e10))⟩
      subst q
      have k10 := k6.go ((e7.trans e9).trans e10)
      obtain ⟨p0, p1, p2, p3, p4, p5, p6, p7⟩ := Blk.host k10.host
      refine ⟨_, p0, _, p1, _, p2, _, p3, _, p4, _, p5, _, p6, _, p7, (Check_spec T t g gs A o1 H10 k10.topo k10.m (is1.ext (e9.trans e10)) ow1.cap hAu).mono ?_⟩
      rintro v H11 ⟨b, rfl, hbb, e11⟩
      have := hbb.2 ha.chk
      subst this
      exact ⟨_, rfl, iteB_neg (by simp) (e10.trans e11)⟩
  · refine push_mk (vs := hostL ⟨0, [], [], [], [], [], [], []⟩ ⟨⟨none, 0, 0⟩, ⟨none, 0, 0⟩, ⟨none, 0, 0⟩, ⟨none, 0, 0⟩, ⟨none, 0, 0⟩, ⟨none, 0, 0⟩, ⟨none, 0, 0⟩⟩) fun H50 e50 z50 b50 => ⟨e50.keeps, (gTopoT_spec H50 s L 24 (by omega) (hL.ext (x2.trans e50)) hl hb).mono ?_⟩
    rintro v H51 ⟨t, T, rfl, hT, hv, hT24, e51, ty51, gt51⟩
    have x51 := (x2.trans e50).trans e51
    refine ⟨t, rfl, e51.keeps, (gHost_spec h hs H51 (hm.ext x51)).mono ?_⟩
    rintro v H52 ⟨g, gs, rfl, mg, hty, _, _, e52⟩
    have b52 := b50.ext (e51.trans e52)
    refine ⟨_, _, _, _, _, _, _, _, rfl, b52.ok0 (Nat.le_refl 8), letH_mk ?_⟩
    intro H6 h6
    have b6 : Blk H6 H2.size t_api_Host (hostL g gs) := by rw [h6]; exact b52.wr
    have m6 : Mods [H2.size] H52 H6 := by rw [h6]; exact Mods.wrs (by simp)
    have e6 : Ext H2 H6 := Mods.ext ((e50.trans e51).trans e52) m6 (by simp)
    clear h6
    have k6 : CkL H T t g gs H2.size H1.size x H6 := ⟨topo_hostwr b52 m6 (hT.ext e52) (ty51.mods (S := []) e52.mods (fun _ _ => by simp)) (gt51.ext e52), mg.modsT hty b52 m6, b6, b2.ext e6, x2.trans e6⟩
    obtain ⟨p0, p1, p2, p3, p4, p5, p6, p7⟩ := Blk.host k6.host
    refine ⟨_, p0, _, p1, _, p2, _, p3, _, p4, _, p5, _, p6, _, p7, (Assign_spec T t g gs H6 k6.topo k6.m).mono ?_⟩
    rintro v H7 ⟨o1, ea, A, ca, rfl, ha, is1, ow1, e7⟩
    obtain ⟨hAl, hAu⟩ := ha.u64
    refine ⟨o1, _, _, _, _, _, rfl, local_mk (vs := encC ca) rfl rfl fun H9 e9 z9 b9 => ?_⟩
    refine ⟨fun H' => Ext H9 H', (awake_spec H9).mono ?_, fun H12 e12 => checks_k3 H T t g gs H1 H2 x hx atv kind H12 (k6.go ((e7.trans e9).trans e12)) o1 A (is1.ext (e9.trans e12)) ow1.cap hAl hAu ea⟩
    rintro v H10 ⟨rfl, e10⟩
    refine ⟨_, rfl, iteB_neg (by simp) (iteB_beq (fun q => ?_) (fun q => e10))⟩
    subst q
    have k10 := k6.go ((e7.trans e9).trans e10)
    obtain ⟨p0, p1, p2, p3, p4, p5, p6, p7⟩ := Blk.host k10.host
    refine ⟨_, p0, _, p1, _, p2, _, p3, _, p4, _, p5, _, p6, _, p7, (Check_spec T t g gs A o1 H10 k10.topo k10.m (is1.ext (e9.trans e10)) ow1.cap hAu).mono ?_⟩
    rintro v H11 ⟨b, rfl, hbb, e11⟩
    have := hbb.2 ha.chk
    subst this
    exact ⟨_, rfl, iteB_neg (by simp) (e10.trans e11)⟩

end Go.Proofs.Ytigcheamheiopaa
