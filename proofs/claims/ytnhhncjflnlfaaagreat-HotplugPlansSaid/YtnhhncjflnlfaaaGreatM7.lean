/-
 The contract of the reference's Assign.
-/
import Derived.Test.YtnhhncjflnlfaaaGreatM6
namespace Go.Proofs.YtnhhncjflnlfaaaGreat
open Go.Eng
set_option linter.unusedVariables false

theorem regL_size {T : List FS} {high : Bool} {i : Nat} {B : List Bar} (hB : ∀ j, j < B.length -> BarOk B j) : ∀ n, n <= B.length -> ∀ x ∈ regL T high i B n, 0 <= x.2.2.2
 | 0, _, x, h => by simp [regL] at h
 | n + 1, hn, x, h => by
  simp only [regL, List.mem_append] at h
  rcases h with h | h
  ·exact regL_size hB n (by omega) x h
  ·split at h
   ·simp at h
   ·simp only [List.mem_singleton] at h
    subst h
    have := hB n (by omega)
    unfold BarOk at this
    show 0 <= bz B n
    omega
theorem winN_size (T : List FS) (high : Bool) (i : Nat) (S : Nat -> List Int) : ∀ n, ∀ x ∈ winN T high i S n, 0 <= x.2.2.2
 | 0, x, h => by simp [winN] at h
 | n + 1, x, h => by
  simp only [winN, List.mem_append] at h
  rcases h with h | h
  ·exact winN_size T high i S n x h
  ·split at h
   ·simp only [List.mem_singleton] at h
    subst h
    show 0 <= wszF _ _ _
    unfold wszF
    split <;> omega
   ·simp at h

structure NdOk (T : List FS) (x : Need) : Prop where
 fn : 0 <= x.1 /\ x.1 < T.length
 cl : 0 <= x.2.2.1 /\ x.2.2.1 < 3
 sz : 0 <= x.2.2.2 /\ x.2.2.2 <= 44
theorem needs_ok {T : List FS} {high : Bool} (hv : ValidT T) (ho : ¬ Ovf T high) : ∀ x ∈ needsAll T high, NdOk T x := by
 intro x hx
 obtain ⟨i, hi, hxi⟩ := List.mem_flatMap.1 hx
 have hi' : i < T.length := List.mem_range.1 hi
 have hle : ¬ (x.2.2.2 > largestF x.2.2.1) := fun hgt => ho ⟨i, hi', x, hxi, hgt⟩
 have hL : largestF x.2.2.1 <= 44 := by unfold largestF; split <;> (try split) <;> omega
 have hf := needsAt_fst hi' x hxi
 rw [needsAt_own' hi'] at hxi
 have hc := ownL_cl _ _ _ _ x hxi
 refine ⟨by omega, hc, ?_, by omega⟩
 simp only [ownL, List.mem_append] at hxi
 rcases hxi with h | h
 ·exact regL_size (hv.2 i hi').va.ba _ (Nat.le_refl _) x h
 ·unfold winAll at h
  split at h
  ·exact winN_size _ _ _ _ 3 x h
  ·cases h

theorem plI_bnd (S : List Int) : ∀ (ord : List Nat) (l : List Rg) (bs : List Int) (x : List Rg × List Int), plI S ord l bs = some x -> Asc l -> (∀ r ∈ l, RgOk r) -> (∀ b ∈ bs, 0 <= b /\ b <= 4503599627370496) -> ∀ b ∈ x.2, 0 <= b /\ b <= 4503599627370496
 | [], l, bs, x, h, _, _, hb => by simp [plI] at h; rw [<- h]; exact hb
 | i :: ord, l, bs, x, h, ha, hr, hb => by
  simp only [plI] at h
  cases ht : takeF l (2 ^ szOf S i) with
  | none => rw [ht] at h; cases h
  | some y =>
   obtain ⟨b, l'⟩ := y
   rw [ht] at h
   have hP := pow_pos2 (szOf S i)
   obtain ⟨r, hrm, h1, h2, h3, h4⟩ := takeF_some ht hP
   have hx : 1 <= ((b, (2 : Int) ^ szOf S i) : Rg).2 := pow_ge1 _
   have hro := hr r hrm
   unfold RgOk at hro
   obtain ⟨r1, _, r3⟩ := rmF_spec ha hx
   refine plI_bnd S ord l' (bs.set i b) x h (by rw [h4]; exact r1) (fun q hq => ?_) (fun c hc => ?_)
   ·rw [h4] at hq
    obtain ⟨f, hf, g1, g2⟩ := r3 q hq
    have := hr f hf
    have := Asc.len r1 q hq
    unfold RgOk at *
    omega
   ·rcases List.mem_or_eq_of_mem_set hc with hc | rfl
    ·exact hb c hc
    ·omega
def Bnd (B : List Int) : Prop := ∀ b ∈ B, 0 <= b /\ b <= 4503599627370496
theorem placeV_bnd (free : List Rg) (S : List Int) : Bnd (placeV free S).2.1 := by
 unfold placeV
 split
 ·rename_i h
  cases hp : plI S (ordF S) (mergeF free) (List.replicate S.length 0) with
  | none => intro b hb; cases hb
  | some x =>
   obtain ⟨vm, am⟩ := h.1.merge
   exact plI_bnd S _ _ _ _ hp am vm.2 (fun b hb => by have := (List.mem_replicate.1 hb).2; omega)
 ·intro b hb; cases hb
theorem setB_bnd {N : List Need} : ∀ (l : List (Need × Int)) (B : List Int), Bnd B -> Bnd (l.map Prod.snd) -> Bnd (setB N B l)
 | [], B, h, _ => h
 | x :: l, B, h, hl => by
  refine setB_bnd l _ (fun b hb => ?_) (fun b hb => hl b (by simp at hb ⊢; exact .inr hb))
  rcases List.mem_or_eq_of_mem_set hb with hb | rfl
  ·exact h b hb
  ·exact hl x.2 (by simp)
theorem plS_ok (T : List FS) (N : List Need) (B : List Int) (p c : Int) (free : List Rg) (h : Bnd B) : Bnd (plS T N B p c free).2.2 /\ (plS T N B p c free).2.2.length = B.length := by
 unfold plS
 refine ⟨setB_bnd _ _ h (fun b hb => ?_), setB_len _ _ _⟩
 obtain ⟨x, hx, rfl⟩ := List.mem_map.1 hb
 exact placeV_bnd _ _ _ (List.of_mem_zip hx).2

def rootR (T : List FS) (N : List Need) (h : Host) : Nat -> Int × Cert × List Int
 | 0 => (0, noCert, List.replicate N.length 0)
 | k + 1 => if (rootR T N h k).1 ≠ 0 then rootR T N h k else plS T N (rootR T N h k).2.2 (-1) k (spaceF h k)
def winF (N : List Need) (B : List Int) (w : Nat) : Rg := (B.getD w 0, 2 ^ (N.getD w (0, 0, 0, 0)).2.2.2.toNat)
def brStep (T : List FS) (N : List Need) (B : List Int) (i c : Nat) : List Int :=
 match atN N i (-1 - (c : Int)) with
 | none => B
 | some w => (plS T N B i c [winF N B w]).2.2
def brR (T : List FS) (N : List Need) (B : List Int) : Nat -> List Int
 | 0 => B
 | m + 1 => brStep T N (brR T N B m) (m / 3) (m % 3)

theorem rootR_ok (T : List FS) (N : List Need) (h : Host) : ∀ k, Bnd (rootR T N h k).2.2 /\ (rootR T N h k).2.2.length = N.length
 | 0 => ⟨fun b hb => by have := (List.mem_replicate.1 hb).2; omega, by simp [rootR]⟩
 | k + 1 => by
  obtain ⟨h1, h2⟩ := rootR_ok T N h k
  unfold rootR
  split
  ·exact ⟨h1, h2⟩
  ·have := plS_ok T N (rootR T N h k).2.2 (-1) k (spaceF h k) h1
   exact ⟨this.1, by rw [this.2]; exact h2⟩
theorem brStep_ok (T : List FS) (N : List Need) (B : List Int) (i c : Nat) (h : Bnd B) : Bnd (brStep T N B i c) /\ (brStep T N B i c).length = B.length := by
 unfold brStep
 split
 ·exact ⟨h, rfl⟩
 ·exact plS_ok _ _ _ _ _ _ h
theorem brR_ok (T : List FS) (N : List Need) (B : List Int) (h : Bnd B) : ∀ m, Bnd (brR T N B m) /\ (brR T N B m).length = B.length
 | 0 => ⟨h, rfl⟩
 | m + 1 => by
  obtain ⟨h1, h2⟩ := brR_ok T N B h m
  have := brStep_ok T N (brR T N B m) (m / 3) (m % 3) h1
  exact ⟨this.1, by unfold brR; rw [this.2]; exact h2⟩
theorem rootR_stick {T : List FS} {N : List Need} {h : Host} {k : Nat} (hk : (rootR T N h k).1 ≠ 0) : ∀ d, rootR T N h (k + d) = rootR T N h k
 | 0 => rfl
 | d + 1 => by
  have ih := rootR_stick hk d
  rw [<- Nat.add_assoc]
  show (if (rootR T N h (k + d)).1 ≠ 0 then rootR T N h (k + d) else _) = _
  rw [ih, if_pos hk]

def hiF (h : Host) : Bool := decide (0 < h.high.length)
def AssignIs (T : List FS) (h : Host) (e : Int) (A : List Asg) (c : Cert) : Prop :=
 (¬ (ValidT T /\ ValidH h) /\ e = 1 /\ A = [] /\ c = noCert) \/
 ((ValidT T /\ ValidH h) /\ ∃ e0 N, NeedsIs T (hiF h) e0 N /\ ((e0 ≠ 0 /\ e = e0 /\ A = [] /\ c = noCert) \/
  (e0 = 0 /\ (rootR T N h 3).1 ≠ 0 /\ e = (rootR T N h 3).1 /\ A = [] /\ c = (rootR T N h 3).2.1) \/
  (e0 = 0 /\ (rootR T N h 3).1 = 0 /\ e = 0 /\ A = N.zip (brR T N (rootR T N h 3).2.2 (3 * T.length)) /\ c = noCert)))
theorem AssignIs.uni {T : List FS} {h : Host} {e e' : Int} {A A' : List Asg} {c c' : Cert} (a : AssignIs T h e A c) (b : AssignIs T h e' A' c') : e = e' /\ A = A' /\ c = c' := by
 rcases a with ⟨a0, rfl, rfl, rfl⟩ | ⟨a0, e0, N, hN, a1⟩ <;> rcases b with ⟨b0, rfl, rfl, rfl⟩ | ⟨b0, e1, M, hM, b1⟩
 ·exact ⟨rfl, rfl, rfl⟩
 ·exact absurd b0 a0
 ·exact absurd a0 b0
 ·obtain ⟨rfl, rfl⟩ := hN.uni hM
  rcases a1 with ⟨u, rfl, rfl, rfl⟩ | ⟨u, v, rfl, rfl, rfl⟩ | ⟨u, v, rfl, rfl, rfl⟩ <;> rcases b1 with ⟨u', rfl, rfl, rfl⟩ | ⟨u', v', rfl, rfl, rfl⟩ | ⟨u', v', rfl, rfl, rfl⟩ <;> first | exact ⟨rfl, rfl, rfl⟩ | contradiction

def AssignP (T : List FS) (h : Host) (H : Heap) (v : Value) (H' : Heap) : Prop :=
 ∃ (out : Sl) (e : Int) (A : List Asg) (c : Cert), v = .tuple #[.slice out.p out.n out.c, certV c, .int .i64 e] /\ AssignIs T h e A c /\ IsS 5 encA H' out A /\ Own H.size t_32 5 H' out (A.flatMap encA) /\ Ext H H'

theorem AssignP.no {T : List FS} {h : Host} {H H' : Heap} {e : Int} {c : Cert} (ha : AssignIs T h e [] c) (he : Ext H H') : AssignP T h H (.tuple #[.slice none 0 0, certV c, .int .i64 e]) H' :=
 ⟨⟨none, 0, 0⟩, e, [], c, rfl, ha, IsS.nil _ _ _, Own.nil _ _ _ _, he⟩

theorem rAssign_spec (T : List FS) (s : Sl) (h : Host) (hs : HostS) (H : Heap) (hT : Topo H s T) (hm : HostM H h hs) : CallsH Tryz.prog n_22 #[.slice s.p s.n s.c, hostV h hs] H (AssignP T h H) := by
 refine F_22_ok _ _ _ _ _ _ _ _ _ ?_
 unfold F_22
 have hn := hT.len
 refine push_mk (vs := hostL h hs) fun H1 e1 z1 b1 => push_mk (vs := encC noCert) fun H2 e2 z2 b2 => ?_
 have x2 := e1.trans e2
 refine ⟨fun b H' => (b = false ↔ ValidT T /\ ValidH h) /\ Ext H2 H', ?_, ?_⟩
 ·refine (rVal_spec T s H2 (hT.ext x2)).mono ?_
  rintro v H3 ⟨rfl, e3⟩
  refine ⟨_, rfl, iteB_not (fun c => ⟨by simp at c; simp [c], e3⟩) (fun c => ?_)⟩
  obtain ⟨p0, p1, p2, p3, p4, p5, p6, p7⟩ := Blk.host ((b1.ext e2).ext e3)
  refine ⟨_, p0, _, p1, _, p2, _, p3, _, p4, _, p5, _, p6, _, p7, (rValidHost_spec h hs H3 (hm.ext (x2.trans e3))).mono ?_⟩
  rintro v H4 ⟨rfl, e4⟩
  simp at c
  exact ⟨_, rfl, by simp [c], e3.trans e4⟩
 rintro b H5 ⟨hb, e5⟩
 unfold F_22_k5
 have x5 := x2.trans e5
 have c5 := b2.ext e5
 have hz1 : H.size <= H1.size := e1.size
 refine iteB_intro (fun c => ?_) (fun c => ?_)
 ·refine cert_wr (c := noCert) (K := fun v H' => AssignP T h H (.tuple #[.slice none 0 0, v, .int .i64 1]) H') c5 (fun H' m' _ => ?_)
  exact AssignP.no (.inl ⟨(fun hh => by have := hb.2 hh; rw [c] at this; cases this), rfl, rfl, rfl⟩) (Mods.ext x5 m' (by simpa using hz1))
 obtain ⟨hv, hvh⟩ := hb.1 c
 have hl64 := hv.1
 have p3 := (Blk.host ((b1.ext e2).ext e5)).2.2.2.1
 have hhigh : decide ((hs.high.n : Int) > 0) = hiF h := by
  have := hm.high.len
  unfold hiF
  rw [this]
  simp
 refine ⟨_, p3, ?_⟩
 rw [hhigh]
 refine (rNeeds_spec T s (hiF h) H5 (hT.ext x5)).mono ?_
 intro v H7 h7
 obtain ⟨ns, e0, N, rfl, isN, hNI, e7⟩ := h7.outI
 have x7 := x5.trans e7
 refine ⟨ns, e0, rfl, iteB_bne (fun d => ?_) (fun d => ?_)⟩
 ·refine cert_wr (c := noCert) (K := fun v H' => AssignP T h H (.tuple #[.slice none 0 0, v, .int .i64 e0]) H') (c5.ext e7) (fun H' m' _ => ?_)
  exact AssignP.no (.inr ⟨⟨hv, hvh⟩, e0, N, hNI, .inl ⟨d, rfl, rfl, rfl⟩⟩) (Mods.ext x7 m' (by simpa using hz1))
 subst d
 have hNl := hNI.len
 have hnn := isN.len
 have hNd : ∀ x ∈ N, NdOk T x := by
  rcases hNI with ⟨_, h0, _⟩ | ⟨_, _, h0, _⟩ | ⟨_, ho, _, rfl⟩
  ·cases h0
  ·cases h0
  ·exact needs_ok hv ho
 have AI : ∀ {e A c}, ((0 : Int) = 0 /\ (rootR T N h 3).1 ≠ 0 /\ e = (rootR T N h 3).1 /\ A = [] /\ c = (rootR T N h 3).2.1) \/ ((0 : Int) = 0 /\ (rootR T N h 3).1 = 0 /\ e = 0 /\ A = N.zip (brR T N (rootR T N h 3).2.2 (3 * T.length)) /\ c = noCert) -> AssignIs T h e A c := fun hh => .inr ⟨⟨hv, hvh⟩, 0, N, hNI, .inr hh⟩
 refine ⟨by omega, by omega, by omega, letH_mk ?_⟩
 rw [Int.toNat_natCast]
 intro H9 h9
 have e9 : Ext H7 H9 := by rw [h9]; exact Ext.push _ _
 have a9 : RB H9 H7.size t_32 5 encA (List.replicate N.length ((0, 0, 0, 0), 0)) := by
  rw [h9, <- hnn]
  exact RB.zero H7 t_32 encA_len ns.n (.agg #[.int .i64 0, .int .i64 0, .int .i64 0, .int .i64 0, .int .u64 0]) (((0, 0, 0, 0), 0) : Asg) rfl
 have cs9 : CS H9 H7.size (N.length * 5) := by
  rw [h9, <- hnn]
  exact ⟨_, _, push_new _ _, by rw [zeroRow_size]; rfl⟩
 clear h9
 have hzz : H1.size < H7.size := by have := c5.lt; have := e7.size; omega
 refine loop1 N.length (fun k H' => RB H' H7.size t_32 5 encA ((N.take k).map (fun x => (x, 0)) ++ List.replicate (N.length - k) ((0, 0, 0, 0), 0)) /\ CS H' H7.size (N.length * 5) /\ Ext H7 H') ⟨by simpa using a9, cs9, e9⟩ ?_
 rintro k H10 hk ⟨a10, cs10, e10⟩
 unfold F_22_r4
 rw [hnn, Int.toNat_natCast]
 refine iteB_dec (fun d => ?_) (fun d => ?_)
 ·have hkn : k < N.length := by omega
  obtain ⟨a, hp, hr⟩ := IsS.atN (isN.ext e10) (0, 0, 0, 0) hkn
  have htk := take_succ_d (0, 0, 0, 0) hkn
  generalize N.getD k (0, 0, 0, 0) = x at *
  obtain ⟨x0, x1, x2', x3⟩ := x
  obtain ⟨m, hmm⟩ : ∃ m, N.length - k = m + 1 := ⟨N.length - k - 1, by omega⟩
  have hmk : N.length - (k + 1) = m := by omega
  rw [hmm, List.replicate_succ] at a10
  have hlk : ((N.take k).map (fun x => ((x, 0) : Asg))).length = k := by simp; omega
  have hget : ((N.take k).map (fun x => ((x, 0) : Asg)) ++ ((0, 0, 0, 0), 0) :: List.replicate m ((0, 0, 0, 0), 0))[k]? = some (((0, 0, 0, 0), 0) : Asg) := by
   rw [List.getElem?_append_right (by omega), hlk, Nat.sub_self]; rfl
  have hw := RB.wrSub a10 (i := k) (j := 0) (x := ((0, 0, 0, 0), 0)) (y := ((x0, x1, x2', x3), 0)) (ws := [.int .i64 x0, .int .i64 x1, .int .i64 x2', .int .i64 x3]) hget (by simp) rfl
  rw [List.set_append_right _ _ (by omega), hlk, Nat.sub_self, List.set_cons_zero] at hw
  have hadd : ((⟨H7.size, 0, none⟩ : Addr).add (k * 5)).add 0 = (⟨H7.size, 0, none⟩ : Addr).add (k * 5) := by rw [add_add', Nat.add_zero]
  rw [hadd] at hw
  refine ⟨by omega, by omega, unSome_mk hp ⟨x0, hr 0 _ rfl, x1, hr 1 _ rfl, x2', hr 2 _ rfl, x3, hr 3 _ rfl, by omega, by omega, ?_, letH_mk ?_⟩⟩
  ·exact RB.ok0 a10 (by simp; omega) (by omega)
  ·rintro H11 rfl
   refine letV_mk _ rfl (next1 hkn (by omega) ⟨?_, cs10.wrs _ _, Mods.ext e10 (mods_wr_add (S := [H7.size]) (by simp)) (by simp)⟩)
   rw [hmk, htk, List.map_append, List.append_assoc]
   exact hw
 obtain rfl : k = N.length := by omega
 have a10' : AsB H10 H7.size N (List.replicate N.length 0) := by
  rw [Nat.sub_self, List.take_length] at a10
  have : (N.map (fun x => ((x, 0) : Asg)) ++ List.replicate 0 ((0, 0, 0, 0), 0)) = N.zip (List.replicate N.length 0) := by
   rw [List.replicate_zero, List.append_nil]
   apply List.ext_getElem?
   intro i
   by_cases hi : i < N.length
   ·simp [List.zip, hi]
   ·simp [List.zip, hi]
  rw [this] at a10
  exact ⟨a10, cs10⟩
 refine loop1 3 (fun k H' => (rootR T N h k).1 = 0 /\ AsB H' H7.size N (rootR T N h k).2.2 /\ Ext H7 H') ⟨rfl, a10', e10⟩ ?_
 rintro k H12 hk ⟨hr0, a12, e12⟩
 unfold F_22_r3
 rw [Int.toNat_natCast]
 obtain ⟨rb1, rb2⟩ := rootR_ok T N h k
 have x12 := x7.trans e12
 refine iteB_dec (fun d1 => ?_) (fun d1 => ?_)
 ·have hk3 : k < 3 := by omega
  obtain ⟨p0, p1, p2, p3, p4, p5, p6, p7⟩ := Blk.host ((((b1.ext e2).ext e5).ext e7).ext e12)
  refine ⟨_, p0, _, p1, _, p2, _, p3, _, p4, _, p5, _, p6, _, p7, (rSpace_spec h hs k H12 (hm.ext x12) hvh).mono ?_⟩
  rintro v H13 ⟨fr, rfl, o13, e13⟩
  have x13 := x12.trans e13
  have hsv := (spaceF_valid hvh k).1
  refine ⟨fr, rfl, ?_⟩
  refine (rplace_spec T s ns fr N (rootR T N h k).2.2 (-1) k (spaceF h k) H7.size ns.n H13 hnn (hT.ext x13) (isN.ext (e12.trans e13)) (a12.ext e13) rb2 hNl (Own.is rkRange o13) hsv.u64).mono ?_
  rintro v H14 ⟨rfl, a14, m14⟩
  have e14 : Ext H7 H14 := Mods.ext (e12.trans e13) m14 (by simp)
  have hstep : rootR T N h (k + 1) = plS T N (rootR T N h k).2.2 (-1) k (spaceF h k) := by
   show (if (rootR T N h k).1 ≠ 0 then rootR T N h k else _) = _
   rw [if_neg (fun hh => hh hr0)]
  rw [<- hstep] at a14 ⊢
  refine ⟨_, _, _, _, _, rfl, local_mk (vs := encC (rootR T N h (k + 1)).2.1) rfl rfl fun H16 e16 z16 b16 => iteB_bne (fun d2 => ?_) (fun d2 => letV_mk _ rfl (next1 hk3 (by omega) ⟨d2, a14.ext e16, e14.trans e16⟩))⟩
  have hst : rootR T N h 3 = rootR T N h (k + 1) := by
   have := rootR_stick d2 (3 - (k + 1))
   rw [show k + 1 + (3 - (k + 1)) = 3 by omega] at this
   exact this
  refine ⟨_, b16.rd0 rfl, _, b16.rd (i := 1) rfl, _, b16.rd (i := 2) rfl, _, b16.rd (i := 3) rfl, ?_⟩
  refine cert_wr (c := (rootR T N h (k + 1)).2.1) (K := fun v H' => AssignP T h H (.tuple #[.slice none 0 0, v, .int .i64 (rootR T N h (k + 1)).1]) H') (((c5.ext e7).ext e14).ext e16) (fun H' m' _ => ?_)
  exact AssignP.no (AI (.inl ⟨rfl, by rw [hst]; exact d2, by rw [hst], rfl, by rw [hst]⟩)) (Mods.ext ((x7.trans e14).trans e16) m' (by simpa using hz1))
 obtain rfl : k = 3 := by omega
 generalize hB1 : (rootR T N h 3).2.2 = B1 at *
 refine loop1 T.length (fun i H' => AsB H' H7.size N (brR T N B1 (3 * i)) /\ Ext H7 H') ⟨a12, e12⟩ ?_
 rintro i H18 hi ⟨a18, e18⟩
 unfold F_22_r2
 rw [Int.toNat_natCast]
 refine iteB_dec (fun d2 => ?_) (fun d2 => ?_)
 rotate_left
 ·obtain rfl : i = T.length := by omega
  have hbl : (brR T N B1 (3 * T.length)).length = N.length := by rw [(brR_ok T N B1 rb1 _).2]; exact rb2
  refine cert_wr (c := noCert) (K := fun v H' => AssignP T h H (.tuple #[.slice (some ⟨H7.size, 0, none⟩) ns.n ns.n, v, .int .i64 0]) H') ((c5.ext e7).ext e18) (fun H' m' _ => ?_)
  have a' := a18.mods m' (by simp; omega)
  refine ⟨⟨some ⟨H7.size, 0, none⟩, ns.n, ns.n⟩, 0, _, noCert, rfl, AI (.inr ⟨rfl, hr0, rfl, rfl, rfl⟩), RB.isS a'.rb _ _ (by rw [zip_len hbl]; exact hnn), ?_, Mods.ext (x7.trans e18) m' (by simpa using hz1)⟩
  exact RB.own a'.rb (by rw [zip_len hbl]; exact a'.cs) x7.size (by rw [zip_len hbl]; exact hnn) (by show ns.n <= 9223372036854775807; omega)
 have hin : i < T.length := by omega
 refine loop1 3 (fun c H' => AsB H' H7.size N (brR T N B1 (3 * i + c)) /\ Ext H7 H') ⟨a18, e18⟩ ?_
 rintro c' H19 hc ⟨a19, e19⟩
 unfold F_22_r1
 rw [Int.toNat_natCast]
 obtain ⟨bb1, bb2⟩ := brR_ok T N B1 rb1 (3 * i + c')
 have hbl : (brR T N B1 (3 * i + c')).length = N.length := by rw [bb2]; exact rb2
 refine iteB_dec (fun d3 => ?_) (fun d3 => ?_)
 rotate_left
 ·obtain rfl : c' = 3 := by omega
  refine letV_mk _ rfl (next1 hin (by omega) ⟨by rw [show 3 * (i + 1) = 3 * i + 3 by omega]; exact a19, e19⟩)
 have hc3 : c' < 3 := by omega
 have hstep : brR T N B1 (3 * i + (c' + 1)) = brStep T N (brR T N B1 (3 * i + c')) i c' := by
  rw [<- Nat.add_assoc]
  show brStep T N (brR T N B1 (3 * i + c')) ((3 * i + c') / 3) ((3 * i + c') % 3) = _
  rw [show (3 * i + c') / 3 = i by omega, show (3 * i + c') % 3 = c' by omega]
 generalize hBm : brR T N B1 (3 * i + c') = Bm at *
 have isA : IsS 5 encA H19 ⟨some ⟨H7.size, 0, none⟩, ns.n, ns.n⟩ (N.zip Bm) := RB.isS a19.rb _ _ (by rw [zip_len hbl]; exact hnn)
 rw [i64_in (n := (-1 : Int) - c') (by omega)]
 refine (rat_spec H19 ⟨some ⟨H7.size, 0, none⟩, ns.n, ns.n⟩ _ i (-1 - (c' : Int)) isA (by rw [zip_len hbl]; omega)).mono ?_
 rintro v H20 ⟨rfl, rfl⟩
 rw [zip_fst hbl]
 refine ⟨_, rfl, ?_⟩
 have x20 := x7.trans e19
 cases hat : atN N i (-1 - (c' : Int)) with
 | none =>
  have hI : atI N i (-1 - (c' : Int)) = -1 := by unfold atI; rw [hat]
  rw [hI]
  refine iteB_neg (by decide) (letV_mk _ rfl (next1 hc3 (by omega) ⟨?_, e19⟩))
  rw [hstep]
  unfold brStep
  rw [hat]
  exact a19
 | some w =>
  have hI : atI N i (-1 - (c' : Int)) = w := by unfold atI; rw [hat]
  obtain ⟨hwN, _, _⟩ := atN_spec hat
  have hnd := hNd _ (getD_mem' (0, 0, 0, 0) hwN)
  have hsz := hnd.sz
  have hbw := bb1 _ (getD_mem' (l := Bm) (k := w) 0 (by omega))
  have hzg := zip_getD hbl hwN
  rw [hI]
  have hwin : winF N Bm w = (Bm.getD w 0, 2 ^ (N.getD w (0, 0, 0, 0)).2.2.2.toNat) := rfl
  generalize hxw : N.getD w (0, 0, 0, 0) = x at *
  generalize hbwv : Bm.getD w 0 = bw at *
  have hpw := pw_small (w := x.2.2.2.toNat) (by omega)
  have hpp := pow_pos2 x.2.2.2.toNat
  refine iteB_pos (by simp) ⟨by omega, by omega, bw, by rw [Int.toNat_natCast]; exact RB.rd a19.rb hzg rfl, by omega, by omega, x.2.2.2, by rw [Int.toNat_natCast]; exact RB.rd a19.rb hzg rfl, u64_nonneg _, ?_⟩
  rw [shl1 hsz.1 (by omega)]
  refine push_mk (vs := encR (bw, 2 ^ x.2.2.2.toNat)) fun H21 e21 z21 b21 => ?_
  have x21 := x20.trans e21
  have isf : Rgs H21 ⟨some ⟨H20.size, 0, none⟩, 1, 1⟩ [winF N Bm w] := by
   rw [hwin]
   exact IsS.of_blk encR_len b21 rfl (fun i v h => h)
  refine (rplace_spec T s ns ⟨some ⟨H20.size, 0, none⟩, 1, 1⟩ N Bm i c' [winF N Bm w] H7.size ns.n H21 hnn (hT.ext x21) (isN.ext (e19.trans e21)) (a19.ext e21) hbl hNl isf (fun r hr => by simp at hr; rw [hr, hwin]; dsimp only; omega)).mono ?_
  rintro v H22 ⟨rfl, a22, m22⟩
  refine ⟨_, _, _, _, _, rfl, letV_mk _ rfl (next1 hc3 (by omega) ⟨?_, Mods.ext (e19.trans e21) m22 (by simp)⟩)⟩
  rw [hstep]
  unfold brStep
  rw [hat]
  exact a22

end Go.Proofs.YtnhhncjflnlfaaaGreat
