/-
  Removing what lies below a port: what the answer is; the contract of the program's Remove.
-/
import Derived.Test.YtnhhncjflnlfaaaA4
namespace Go.Proofs.Ytnhhncjflnlfaaa
open Go.Eng

abbrev Asg := (Int × Int × Int × Int) × Int
def encA (x : Asg) : List Value := [.int .i64 x.1.1, .int .i64 x.1.2.1, .int .i64 x.1.2.2.1, .int .i64 x.1.2.2.2, .int .u64 x.2]
theorem encA_len (x : Asg) : (encA x).length = 5 := rfl
theorem encA_one (x : Asg) : ∀ u ∈ encA x, oneC u = true := fun u hu => by simp [encA] at hu; rcases hu with rfl | rfl | rfl | rfl | rfl <;> rfl
theorem rkAsg : RK Try.prog t_sl_api_Assignment t_api_Assignment (.agg #[.int .i64 0, .int .i64 0, .int .i64 0, .int .i64 0, .int .u64 0]) 5 40 encA := ⟨by kernel_rfl, by kernel_rfl, rfl, by omega, by omega, encA_len, encA_one⟩

def Gone (p : Int) (ix : List Int) (f : Fn) : Prop := f.parent = p ∨ (0 ≤ f.parent ∧ ix.getD f.parent.toNat 0 < 0)
instance (p : Int) (ix : List Int) (f : Fn) : Decidable (Gone p ix f) := by unfold Gone; infer_instance
def mvd (ix : List Int) (f : Fn) : Fn := { f with parent := if 0 ≤ f.parent then ix.getD f.parent.toNat 0 else f.parent }
def remS (p : Int) (st : List Int × List Fn) (f : Fn) : List Int × List Fn :=
  if Gone p st.1 f then (st.1 ++ [-1], st.2) else (st.1 ++ [(st.2.length : Int)], st.2 ++ [mvd st.1 f])
def remF (p : Int) (L : List Fn) : List Int × List Fn := L.foldl (remS p) ([], [])

theorem remF_snoc (p : Int) (L : List Fn) (f : Fn) : remF p (L ++ [f]) = remS p (remF p L) f := by
  unfold remF
  rw [List.foldl_append]
  rfl
theorem remF_len (p : Int) (L : List Fn) : (remF p L).1.length = L.length ∧ (remF p L).2.length ≤ L.length := by
  have key : ∀ (M : List Fn) (st : List Int × List Fn), (M.foldl (remS p) st).1.length = st.1.length + M.length ∧ (M.foldl (remS p) st).2.length ≤ st.2.length + M.length := by
    intro M
    induction M with
    | nil => intro st; simp
    | cons f M ih =>
      intro st
      rw [List.foldl_cons]
      obtain ⟨h1, h2⟩ := ih (remS p st f)
      unfold remS at h1 h2 ⊢
      split at h1 <;> rename_i hg <;> simp only [hg, if_true, if_false] at h1 h2 ⊢ <;> simp only [List.length_append, List.length_cons, List.length_nil] at h1 h2 ⊢ <;> constructor <;> omega
  have := key L ([], [])
  unfold remF
  simpa using this

def asgF (n : Nat) (ix : List Int) (x : Asg) : Option Asg := if (0 ≤ x.1.1 ∧ x.1.1 < n) ∧ 0 ≤ ix.getD x.1.1.toNat 0 then some ((ix.getD x.1.1.toNat 0, x.1.2), x.2) else none

def RemIs (T : List FS) (A : List Asg) (p e : Int) (L : List Fn) (B : List Asg) (ix : List Int) : Prop :=
  (¬ ValidT T ∧ e = 1 ∧ L = [] ∧ B = [] ∧ ix = []) ∨ (ValidT T ∧ ¬ IsPort T p ∧ e = 6 ∧ L = [] ∧ B = [] ∧ ix = []) ∨
  (ValidT T ∧ IsPort T p ∧ e = 0 ∧ L = (remF p (fns T)).2 ∧ B = A.filterMap (asgF T.length (remF p (fns T)).1) ∧ ix = (remF p (fns T)).1)
theorem RemIs.uni {T : List FS} {A : List Asg} {p e e' : Int} {L L' : List Fn} {B B' : List Asg} {ix ix' : List Int} (h : RemIs T A p e L B ix) (h' : RemIs T A p e' L' B' ix') : e = e' ∧ L = L' ∧ B = B' ∧ ix = ix' := by
  rcases h with ⟨a, rfl, rfl, rfl, rfl⟩ | ⟨a, b, rfl, rfl, rfl, rfl⟩ | ⟨a, b, rfl, rfl, rfl, rfl⟩ <;> rcases h' with ⟨a', rfl, rfl, rfl, rfl⟩ | ⟨a', b', rfl, rfl, rfl, rfl⟩ | ⟨a', b', rfl, rfl, rfl, rfl⟩ <;> first | exact ⟨rfl, rfl, rfl, rfl⟩ | contradiction

/-- An answer of Remove in memory. -/
def RemP (T : List FS) (A : List Asg) (p : Int) (H : Heap) (v : Value) (H' : Heap) : Prop :=
  ∃ (s1 s2 s3 : Sl) (e : Int) (L : List Fn) (T' : List FS) (B : List Asg) (ix : List Int), v = .tuple #[.slice s1.p s1.n s1.c, .slice s2.p s2.n s2.c, .slice s3.p s3.n s3.c, .int .i64 e] ∧ RemIs T A p e L B ix ∧
    fns T' = L ∧ Topo H' s1 T' ∧ IsS 5 encA H' s2 B ∧ Ints .i64 H' s3 ix ∧ Ext H H'

theorem RemP.no {T : List FS} {A : List Asg} {p e : Int} {H H' : Heap} (h : RemIs T A p e [] [] []) (he : Ext H H') : RemP T A p H (.tuple #[.slice none 0 0, .slice none 0 0, .slice none 0 0, .int .i64 e]) H' :=
  ⟨⟨none, 0, 0⟩, ⟨none, 0, 0⟩, ⟨none, 0, 0⟩, e, [], [], [], [], rfl, h, rfl, Topo.nil _, IsS.nil _ _ _, IsS.nil _ _ _, he⟩

/-- The table of indices, of which the first are filled. -/
abbrev IxB (H : Heap) (b : Nat) (ix : List Int) (m : Nat) : Prop := RB H b t_int 1 (encI .i64) (ix ++ List.replicate m 0)

theorem IxB.rd' {H : Heap} {b : Nat} {ix : List Int} {m i : Nat} (h : IxB H b ix m) (hi : i < ix.length) : rd H ((⟨b, 0, none⟩ : Addr).add (i * 1)) = some (.int .i64 (ix.getD i 0)) := by
  refine RB.rd0 h (i := i) (x := ix.getD i 0) ?_ rfl
  rw [List.getElem?_append_left hi]
  simp [List.getD, hi]
theorem IxB.set {H : Heap} {b : Nat} {ix : List Int} {m : Nat} (h : IxB H b ix (m + 1)) (y : Int) : IxB (wrs H ((⟨b, 0, none⟩ : Addr).add (ix.length * 1)) [.int .i64 y]) b (ix ++ [y]) m := by
  have := RB.wr0 h (i := ix.length) (x := 0) (y := y) (v := .int .i64 y) (by rw [List.getElem?_append_right (Nat.le_refl _)]; simp) (by omega) rfl
  rw [List.set_append_right _ _ (Nat.le_refl _), Nat.sub_self, List.replicate_succ, List.set_cons_zero] at this
  unfold IxB
  rw [List.append_assoc]
  exact this
theorem IxB.ok' {H : Heap} {b : Nat} {ix : List Int} {m : Nat} (h : IxB H b ix (m + 1)) : okRow H ((⟨b, 0, none⟩ : Addr).add (ix.length * 1)) 1 := RB.ok0 h (by simp) (by omega)

/-- The assignments of what is left. -/
theorem remove_asg {T : List FS} {A : List Asg} {s a : Sl} {p : Int} {H H2 H5 : Heap} {restv : Sl} {T1 : List FS} {ix : List Int} (hT : Topo H s T) (hA : IsS 5 encA H a A) (hAl : A.length ≤ 100000) (hv : ValidT T) (hport : IsPort T p)
    (hix : ix = (remF p (fns T)).1) (hf1 : fns T1 = (remF p (fns T)).2) (h1 : Topo H5 restv T1) (hI : IxB H5 H2.size ix 0) (e5 : Ext H H5) :
    ∃ I_1 : Sl → Int → Heap → Prop, ∃ M_1 : Sl → Int → Heap → Nat, I_1 (Sl.mk none 0 0) (0 : Int) H5 ∧ (∀ assigned : Sl, ∀ x55 : Int, ∀ H18 : Heap, I_1 assigned x55 H18 → F_hotplug_Remove_r3 (RemP T A p H) s a H2 restv I_1 M_1 assigned x55 H18) := by
  have hn := hT.len
  have han := hA.len
  have hixl : ix.length = T.length := by rw [hix, (remF_len p (fns T)).1]; simp
  have hT64 := hv.1
  refine loop2 A.length (fun k out H' => Own H5.size t_api_Assignment 5 H' out (((A.take k).filterMap (asgF T.length ix)).flatMap encA) ∧ Ext H5 H') ⟨Own.nil _ _ _ _, .refl _⟩ ?_
  rintro k out H18 hk ⟨o18, e18⟩
  unfold F_hotplug_Remove_r3
  rw [Int.toNat_natCast]
  have n18 := Own.len rkAsg o18
  have hfl : ((A.take k).filterMap (asgF T.length ix)).length ≤ k := by
    have h1 := List.length_filterMap_le (asgF T.length ix) (A.take k)
    have h2 : (A.take k).length ≤ k := by simp; omega
    omega
  refine iteB_dec (fun c => ?_) (fun c => ?_)
  · have hkn : k < A.length := by omega
    obtain ⟨q, hq, hr⟩ := IsS.atN (hA.ext (e5.trans e18)) ((0, 0, 0, 0), 0) hkn
    have htk := take_succ_d ((0, 0, 0, 0), 0) hkn
    generalize A.getD k ((0, 0, 0, 0), 0) = x at *
    obtain ⟨⟨x0, x1, x2, x3⟩, x4⟩ := x
    have hstep : (A.take (k + 1)).filterMap (asgF T.length ix) = (A.take k).filterMap (asgF T.length ix) ++ (asgF T.length ix ((x0, x1, x2, x3), x4)).toList := by
      rw [htk, List.filterMap_append]
      congr 1
    have skip : ∀ H', Ext H18 H' → asgF T.length ix ((x0, x1, x2, x3), x4) = none → CI2 A.length (fun k out H' => Own H5.size t_api_Assignment 5 H' out (((A.take k).filterMap (asgF T.length ix)).flatMap encA) ∧ Ext H5 H') out (IntKind.i64.wrap ((k : Int) + 1)) H' ∧ CM2 A.length out (IntKind.i64.wrap ((k : Int) + 1)) H' < CM2 A.length out (k : Int) H18 := by
      intro H' e' hq
      refine next2 hkn (by omega) ⟨?_, e18.trans e'⟩
      rw [hstep, hq]
      simpa using o18.ext e'
    refine ⟨by omega, by omega, unSome_mk hq ⟨_, hr 0 _ rfl, _, hr 1 _ rfl, _, hr 2 _ rfl, _, hr 3 _ rfl, _, hr 4 _ rfl, local_mk (vs := encA ((x0, x1, x2, x3), x4)) rfl rfl fun H20 e20 z20 b20 => ⟨_, b20.rd0 rfl, iteB_dec (fun d => skip _ e20 ?_) (fun d => ⟨_, b20.rd0 rfl, iteB_dec (fun d1 => skip _ e20 ?_) (fun d1 => ?_)⟩)⟩⟩⟩
    · unfold asgF; rw [if_neg]; intro hh; have := hh.1; dsimp only at this d; omega
    · unfold asgF; rw [if_neg]; intro hh; have := hh.1; dsimp only at this d1; omega
    dsimp only at d d1
    obtain ⟨j, rfl⟩ := Int.eq_ofNat_of_zero_le (by omega : 0 ≤ x0)
    have hj : j < ix.length := by omega
    have hrd : rd H20 ((⟨H2.size, 0, none⟩ : Addr).add ((j : Int).toNat * 1)) = some (.int .i64 (ix.getD j 0)) := by rw [Int.toNat_natCast]; exact IxB.rd' (RB.ext (RB.ext hI e18) e20) hj
    refine ⟨_, b20.rd0 rfl, by dsimp only; omega, by dsimp only; omega, _, hrd, iteB_dec (fun d2 => skip _ e20 ?_) (fun d2 => ⟨_, b20.rd0 rfl, by dsimp only; omega, by dsimp only; omega, _, hrd, b20.ok0 (by simp [encA]), letH_mk ?_⟩)⟩
    · unfold asgF; rw [if_neg]; intro hh; have := hh.2; rw [Int.toNat_natCast] at this; omega
    intro H21 h21
    have b21 : Blk H21 H18.size t_api_Assignment (encA ((ix.getD j 0, x1, x2, x3), x4)) := by rw [h21]; exact b20.wr
    have m21 : Mods [H18.size] H20 H21 := by rw [h21]; exact Mods.wrs (by simp)
    clear h21
    have e1821 : Ext H18 H21 := Mods.ext e20 m21 (by simp)
    refine ⟨_, b21.rd0 rfl, _, b21.rd (i := 1) rfl, _, b21.rd (i := 2) rfl, _, b21.rd (i := 3) rfl, _, b21.rd (i := 4) rfl, ?_⟩
    refine apR rkAsg ((ix.getD j 0, x1, x2, x3), x4) (lo := H5.size) (o18.ext e1821) (by omega) (e18.trans e1821).size ?_
    intro s' H23 ho hn23 m23
    refine next2 hkn (by omega) ⟨?_, Mods.ext (e18.trans e1821) m23 (blkOf_new o18.new)⟩
    have : asgF T.length ix (((j : Int), x1, x2, x3), x4) = some ((ix.getD j 0, x1, x2, x3), x4) := by
      unfold asgF
      rw [if_pos ⟨⟨by dsimp only; omega, by dsimp only; omega⟩, by rw [Int.toNat_natCast]; omega⟩, Int.toNat_natCast]
    rw [hstep, this]
    exact ho
  · obtain rfl : k = A.length := by omega
    rw [List.take_length] at o18
    refine ⟨restv, out, ⟨some ⟨H2.size, 0, none⟩, s.n, s.n⟩, 0, _, T1, _, ix, rfl, .inr (.inr ⟨hv, hport, rfl, rfl, rfl, hix⟩), hf1, h1.ext e18, ?_, ?_, e5.trans e18⟩
    · rw [← hix]; exact Own.is rkAsg o18
    · have := RB.isS (RB.ext hI e18) s.n s.n (by simp; omega)
      simpa using this

theorem Remove_spec (T : List FS) (A : List Asg) (s a : Sl) (p : Int) (H : Heap) (hT : Topo H s T) (hA : IsS 5 encA H a A) (hAl : A.length ≤ 100000) :
    CallsH Try.prog n_hotplug_Remove #[.slice s.p s.n s.c, .slice a.p a.n a.c, .int .i64 p] H (RemP T A p H) := by
  refine F_hotplug_Remove_ok _ _ _ ?_
  unfold F_hotplug_Remove
  have hn := hT.len
  refine (eValid_spec T s H hT).mono ?_
  rintro v H1 ⟨rfl, e1⟩
  refine ⟨_, rfl, iteB_not (fun d => RemP.no (.inl ⟨by simpa using d, rfl, rfl, rfl, rfl⟩) e1) (fun d => ?_)⟩
  have hv : ValidT T := by simpa using d
  have hl64 := hv.1
  refine (isPort_spec T s p H1 (hT.ext e1) hv).mono ?_
  rintro v H2 ⟨rfl, rfl⟩
  refine ⟨_, rfl, iteB_not (fun d => RemP.no (.inr (.inl ⟨hv, by simpa using d, rfl, rfl, rfl, rfl⟩)) e1) (fun d => ?_)⟩
  have hport : IsPort T p := by simpa using d
  refine ⟨by omega, by omega, by omega, letH_mk ?_⟩
  rw [Int.toNat_natCast]
  intro H3 h3
  have e3 : Ext H2 H3 := by rw [h3]; exact Ext.push _ _
  have z3 : H3.size = H2.size + 1 := by rw [h3]; simp
  have i3 : IxB H3 H2.size [] T.length := by
    rw [h3, ← hn]
    exact RB.zero H2 t_int (ints_row _) s.n (.int .i64 0) (0 : Int) rfl
  clear h3
  refine ⟨by omega, by omega, by omega, letH_mk ?_⟩
  intro H4 h4
  have e4 : Ext H3 H4 := by rw [h4]; exact Ext.push _ _
  have z4 : H4.size = H3.size + 1 := by rw [h4]; simp
  have o4 : Own H3.size t_api_Function 11 H4 ⟨some ⟨H3.size, 0, none⟩, 0, s.n⟩ (([] : List FS).flatMap encF) := by
    rw [h4]
    refine Own.make (Nat.le_refl _) ?_ rfl
    show _ ≤ 9223372036854775807
    omega
  clear h4
  have hle2 := e1.size
  refine loop2 T.length (fun k out H' => ∃ T1 : List FS, fns T1 = (remF p ((fns T).take k)).2 ∧ Own H3.size t_api_Function 11 H' out (T1.flatMap encF) ∧ GT H' T1 ∧ IxB H' H2.size (remF p ((fns T).take k)).1 (T.length - k) ∧ Ext H H') ⟨[], rfl, o4, (fun x hx => by cases hx), RB.ext i3 e4, (e1.trans e3).trans e4⟩ ?_
  rintro k out H5 hk ⟨T1, hf1, o5, g5, i5, e5⟩
  unfold F_hotplug_Remove_r4
  have hz5 : H2.size < H5.size := RB.lt i5
  obtain ⟨hl1, hl2⟩ := remF_len p ((fns T).take k)
  have hlk : ((fns T).take k).length = k := by simp; omega
  rw [hlk] at hl1 hl2
  have hT1l : T1.length ≤ k := by have := congrArg List.length hf1; simp at this; omega
  have hT1e : T1.length = (remF p ((fns T).take k)).2.length := by have := congrArg List.length hf1; simpa using this
  have n5 := Own.len rkFn o5
  refine iteB_dec (fun c => ?_) (fun c => ?_)
  · have hkn : k < T.length := by omega
    obtain ⟨q, hq, hr⟩ := (hT.ext e5).at hkn
    obtain ⟨p0, p1, p2, p3, p4, p5, p6, p7, p8, p9, p10⟩ := rdFn hr
    have hbars := hT.barsAt hkn
    have hbl := (hv.2 k hkn).va.bl
    have hpa := (hv.2 k hkn).pa
    have hrg : regs (fnAt T k).bridge ≤ 6 := by unfold regs; split <;> omega
    have htk := take_fns hkn
    generalize fnAt T k = f at *
    generalize slAt T k = fs at *
    have hsn : remF p ((fns T).take (k + 1)) = remS p (remF p ((fns T).take k)) f := by rw [htk, remF_snoc]
    generalize hst : remF p ((fns T).take k) = st at *
    refine ⟨by omega, by omega, unSome_mk hq ⟨_, p0, _, p1, _, p2, _, p3, _, p4, _, p5, _, p6, _, p7, _, p8, _, p9, fs, p10, local_mk (vs := fnL f fs) rfl rfl fun H7 e7 z7 b7 => ?_⟩⟩
    have i7 : IxB H7 H2.size st.1 (T.length - k) := RB.ext i5 e7
    refine ⟨fun b H' => (b = true ↔ Gone p st.1 f) ∧ H' = H7, ⟨_, b7.rd0 rfl, iteB_beq (fun d1 => ⟨by simp [Gone, d1], rfl⟩) (fun d1 => ⟨_, b7.rd0 rfl, iteB_dec (fun d2 => ⟨_, b7.rd0 rfl, by omega, by omega, ?_⟩) (fun d2 => ⟨?_, rfl⟩)⟩)⟩, ?_⟩
    · obtain ⟨j, hj⟩ := Int.eq_ofNat_of_zero_le d2
      refine ⟨st.1.getD f.parent.toNat 0, ?_, ?_, rfl⟩
      · rw [hj]; exact i7.rd' (i := j) (by omega)
      · simp only [decide_eq_true_eq, Gone]
        exact ⟨fun hh => .inr ⟨d2, hh⟩, fun hh => by rcases hh with hh | hh; exact absurd hh d1; exact hh.2⟩
    · simp only [Bool.false_eq_true, false_iff, Gone]
      rintro (hh | hh)
      · exact d1 hh
      · exact d2 hh.1
    · rintro b H8 ⟨hb, rfl⟩
      unfold F_hotplug_Remove_k2
      rw [Int.toNat_natCast, Int.toNat_natCast]
      obtain ⟨m, hm⟩ : ∃ m, T.length - k = m + 1 := ⟨T.length - k - 1, by omega⟩
      rw [hm] at i7
      have hkk : k = st.1.length := hl1.symm
      have hmk : T.length - (k + 1) = m := by omega
      have nty : ∀ {e : TypeId} {q : Option Addr}, e ≠ t_int → TyB H8 q e → ∀ a, q = some a → a.block ∉ [H2.size] := fun {e q} he hq a ha => by
        obtain ⟨_, ex, hbk⟩ := i7
        have : TyB H8 (some ⟨H2.size, 0, none⟩) t_int := fun a ha => by cases ha; exact ⟨_, _, hbk⟩
        have := ty_ne hq this he a ha
        simpa [blkOf] using this
      have wrI : ∀ y : Int, ∀ H9, H9 = wrs H8 ((⟨H2.size, 0, none⟩ : Addr).add (k * 1)) [.int .i64 y] → IxB H9 H2.size (st.1 ++ [y]) m ∧ Mods [H2.size] H8 H9 := fun y H9 h9 => by
        subst h9
        refine ⟨?_, mods_wr_add (by simp)⟩
        rw [hkk]
        exact i7.set y
      refine iteB_intro (fun d1 => ⟨by omega, by omega, by rw [hkk]; exact i7.ok', letH_mk ?_⟩) (fun d1 => ⟨by omega, by omega, by rw [hkk]; exact i7.ok', letH_mk ?_⟩)
      · intro H9 h9
        obtain ⟨i9, m9⟩ := wrI _ _ h9
        clear h9
        have hg := hb.1 d1
        refine next2 hkn (by omega) ⟨T1, ?_, (o5.ext e7).mods m9 (nty (by decide) (own_ty (o5.ext e7))), (g5.ext e7).mods m9 (fun q hq => nty (by decide) hq), ?_, Mods.ext (e5.trans e7) m9 (by simp; omega)⟩
        · rw [hsn, hf1]; unfold remS; rw [if_pos hg]
        · rw [hsn, hmk]; unfold remS; rw [if_pos hg]; exact i9
      · intro H10 h10
        obtain ⟨i10, m10⟩ := wrI _ _ h10
        clear h10
        have hg : ¬ Gone p st.1 f := fun hh => by have := hb.2 hh; rw [d1] at this; cases this
        have b10 : Blk H10 H5.size t_api_Function (fnL f fs) := b7.mods m10 (by simp; omega)
        obtain ⟨q0, q1, q2, q3, q4, q5, q6, q7, q8, q9, q10⟩ := Blk.fn b10
        have x10 : Ext H H10 := Mods.ext (e5.trans e7) m10 (by simp; omega)
        have o10 := (o5.ext e7).mods m10 (nty (by decide) (own_ty (o5.ext e7)))
        have g10 := (g5.ext e7).mods m10 (fun q hq => nty (by decide) hq)
        refine ⟨_, q0, _, q1, _, q2, _, q3, _, q4, _, q5, _, q6, _, q7, _, q8, _, q9, fs, q10, (copyFunction_spec f fs H10 (hbars.ext x10) (by omega)).mono ?_⟩
        rintro v H11 ⟨cs, rfl, bc, tc, e11⟩
        refine ⟨_, _, _, _, _, _, _, _, _, _, cs, rfl, local_mk (vs := fnL f cs) rfl rfl fun H13 e13 z13 b13 => ?_⟩
        have i13 : IxB H13 H2.size (st.1 ++ [(out.n : Int)]) m := RB.ext (RB.ext i10 e11) e13
        have b13f := (b10.ext e11).ext e13
        refine ⟨fun H' => Blk H' H11.size t_api_Function (fnL (mvd st.1 f) cs) ∧ Mods [H11.size] H13 H', ⟨_, b13f.rd0 rfl, iteB_dec (fun d2 => ⟨_, b13f.rd0 rfl, by omega, by omega, ?_⟩) (fun d2 => ⟨?_, Mods.refl _ _⟩)⟩, ?_⟩
        · obtain ⟨j, hj⟩ := Int.eq_ofNat_of_zero_le d2
          have hjk : j < st.1.length := by omega
          refine ⟨st.1.getD f.parent.toNat 0, ?_, b13.ok0 (by simp), letH_mk ?_⟩
          · rw [hj, Int.toNat_natCast]
            have := i13.rd' (i := j) (by simp; omega)
            rw [List.getD, List.getElem?_append_left hjk] at this
            exact this
          · rintro H14 rfl
            refine ⟨?_, Mods.wrs (by simp)⟩
            have := b13.wr (o := 0) (ws := [.int .i64 (st.1.getD f.parent.toNat 0)])
            have e : mvd st.1 f = { f with parent := st.1.getD f.parent.toNat 0 } := by unfold mvd; rw [if_pos d2]
            rw [e]
            exact this
        · have e : mvd st.1 f = f := by unfold mvd; rw [if_neg d2]
          rw [e]; exact b13
        · rintro H15 ⟨b15, m15⟩
          unfold F_hotplug_Remove_k1
          obtain ⟨u0, u1, u2, u3, u4, u5, u6, u7, u8, u9, u10⟩ := Blk.fn b15
          have e1013 : Ext H10 H13 := e11.trans e13
          have hz11 := e11.size
          have e1015 : Ext H10 H15 := Mods.ext e1013 m15 (by simp; omega)
          have bt13 : TyB H13 (some ⟨H11.size, 0, none⟩) t_api_Function := fun a ha => by cases ha; exact ⟨_, _, b13⟩
          have tc13 : TyB H13 cs.p t_api_Bar := tc.mods (S := []) e13.mods (by simp)
          have ncs : ∀ a, cs.p = some a → a.block ∉ [H11.size] := fun a ha => by have := ty_ne tc13 bt13 (by decide) a ha; simpa [blkOf] using this
          have bc15 := (bc.ext e13).mods m15 ncs
          have tc15 := tc13.mods m15 ncs
          refine ⟨_, u0, _, u1, _, u2, _, u3, _, u4, _, u5, _, u6, _, u7, _, u8, _, u9, cs, u10, ?_⟩
          have hm10 := m10.size
          have hz7 : H3.size ≤ H5.size := by
            have := o5.new
            omega
          refine apR rkFn (mvd st.1 f, cs) (lo := H3.size) (o10.ext e1015) (by omega) (by have := e1015.size; have := e7.size; omega) ?_
          intro s' H17 ho hn17 m17
          have nout : ∀ q, TyB H15 q t_api_Bar → ∀ a, q = some a → a.block ∉ blkOf out.p := fun q hq a ha => ty_ne hq (own_ty (o10.ext e1015)) (by decide) a ha
          have nix : H2.size ∉ blkOf out.p := fun hh => by
            obtain ⟨_, ex, hbk⟩ := i10
            have t1 : TyB H10 (some ⟨H2.size, 0, none⟩) t_int := fun a ha => by cases ha; exact ⟨_, _, hbk⟩
            exact ty_ne t1 (own_ty o10) (by decide) _ rfl hh
          refine next2 hkn (by omega) ⟨T1 ++ [(mvd st.1 f, cs)], ?_, ho, (GT.append (f := mvd st.1 f) (g10.ext e1015) bc15 tc15).mods m17 nout, ?_, Mods.ext (x10.trans e1015) m17 (fun x hx => by have := blkOf_new o5.new x hx; omega)⟩
          · rw [hsn]; unfold remS; rw [if_neg hg]; show List.map _ _ = _; rw [List.map_append]; show fns T1 ++ _ = _; rw [hf1]; rfl
          · rw [hsn, hmk]; unfold remS; rw [if_neg hg]
            have : (out.n : Int) = (st.2.length : Int) := by omega
            rw [← this]
            exact RB.mods (RB.ext i10 e1015) m17 nix
  · obtain rfl : k = T.length := by omega
    have htake : (fns T).take T.length = fns T := List.take_of_length_le (by simp)
    rw [htake] at hf1 i5
    rw [Nat.sub_self] at i5
    exact remove_asg hT hA hAl hv hport rfl hf1 ⟨Own.is rkFn o5, fun x hx => (g5 x hx).1⟩ i5 e5

end Go.Proofs.Ytnhhncjflnlfaaa
