import Derived.Test.YtnhhncjflnlfaaaGreatA1

section
/-
 Equality of functions; copies of functions; ports; what lies below a bridge.
-/
namespace Go.Proofs.YtnhhncjflnlfaaaGreat
open Go.Eng

abbrev fns (T : List FS) : List Fn := T.map Prod.fst

theorem Topo.fnsAt {T : List FS} {i : Nat} (hi : i < T.length) : (fns T)[i]? = some (fnAt T i) := by
 unfold fnAt
 simp [List.getD, hi]

def IsPort (T : List FS) (p : Int) : Prop := (0 <= p /\ p < T.length) /\ (fnAt T p.toNat).hot = true
instance (T : List FS) (p : Int) : Decidable (IsPort T p) := by unfold IsPort; infer_instance

theorem isPort_spec (T : List FS) (s : Sl) (p : Int) (H : Heap) (h : Topo H s T) (hv : ValidT T) :
  CallsH Tryz.prog n_66 #[.slice s.p s.n s.c, .int .i64 p] H (fun v H' => v = .bool (decide (IsPort T p)) /\ H' = H) := by
 refine F_66_ok _ _ ?_
 unfold F_66
 have hn := h.len
 have no : ¬ IsPort T p -> (.bool false : Value) = .bool (decide (IsPort T p)) /\ H = H := fun hh => ⟨by rw [decide_eq_false hh], rfl⟩
 refine iteB_dec (fun c => iteB_dec (fun c1 => ?_) (fun c1 => no (fun hh => by have := hh.1; omega))) (fun c => no (fun hh => by have := hh.1; omega))
 obtain ⟨j, rfl⟩ := Int.eq_ofNat_of_zero_le (by omega : 0 <= p)
 obtain ⟨a, hp, hr⟩ := h.at (i := j) (by omega)
 obtain ⟨_, _, _, _, r4, _, r6, _⟩ := rdFn hr
 refine ⟨by omega, by omega, unSome_mk hp ⟨_, r4, iteB_intro (fun c2 => ⟨by omega, by omega, unSome_mk hp ⟨_, r6, ?_, rfl⟩⟩) (fun c2 => no (fun hh => ?_))⟩⟩
 ·congr 1
  unfold IsPort
  cases hq : (fnAt T j).hot
  ·symm; simp [hq]
  ·symm; simp [hq]; omega
 ·have := ((hv.2 j (by omega)).va.nb c2).2
  have h2 := hh.2
  rw [Int.toNat_natCast, this] at h2
  cases h2

theorem rport_spec (T : List FS) (s : Sl) (p : Int) (H : Heap) (h : Topo H s T) :
  CallsH Tryz.prog n_64 #[.slice s.p s.n s.c, .int .i64 p] H (fun v H' => v = .bool (decide (IsPort T p)) /\ H' = H) := by
 refine F_64_ok _ _ ?_
 unfold F_64
 have hn := h.len
 have no : ¬ IsPort T p -> (.bool false : Value) = .bool (decide (IsPort T p)) /\ H = H := fun hh => ⟨by rw [decide_eq_false hh], rfl⟩
 refine iteB_dec (fun c => iteB_dec (fun c1 => ?_) (fun c1 => no (fun hh => by have := hh.1; omega))) (fun c => no (fun hh => by have := hh.1; omega))
 obtain ⟨j, rfl⟩ := Int.eq_ofNat_of_zero_le (by omega : 0 <= p)
 obtain ⟨a, hp, hr⟩ := h.at (i := j) (by omega)
 obtain ⟨_, _, _, _, r4, _, r6, _⟩ := rdFn hr
 refine ⟨by omega, by omega, unSome_mk hp ⟨_, r6, ?_, rfl⟩⟩
 congr 1
 unfold IsPort
 cases hq : (fnAt T j).hot
 ·symm; simp [hq]
 ·symm; simp [hq]; omega

def Busy (T : List FS) (p : Int) : Prop := ∃ i, i < T.length /\ (fnAt T i).parent = p

theorem rBelow18_spec (T : List FS) (s : Sl) (p : Int) (H : Heap) (h : Topo H s T) (hv : ValidT T) :
  CallsH Tryz.prog n_65 #[.slice s.p s.n s.c, .int .i64 p] H (fun v H' => ∃ out : Sl, v = .slice out.p out.n out.c /\ (0 < out.n ↔ Busy T p) /\ Ext H H') := by
 refine F_65_ok _ _ ?_
 unfold F_65
 have hn := h.len
 have hT := hv.1
 refine loop2 32 (fun k out H' => ∃ L : List Int, Own H.size t_3 1 H' out (L.flatMap (encI .i64)) /\ L.length <= 64 * k /\ (L ≠ [] ↔ ∃ i, i < T.length /\ (fnAt T i).parent = p /\ (fnAt T i).slot < k) /\ Ext H H') ⟨[], Own.nil _ _ _ _, by simp, ⟨fun h => absurd rfl h, fun ⟨i, hi, _, hs⟩ => by have := (hv.2 i hi).va.sl; omega⟩, .refl _⟩ ?_
 rintro k out H1 hk ⟨L, o1, l1, i1, e1⟩
 unfold F_65_r3
 refine iteB_dec (fun c => ?_) (fun c => ⟨out, rfl, ?_, e1⟩)
 rotate_left
 ·have n1 := Own.len rkInt o1
  have : 0 < out.n ↔ L ≠ [] := by rw [n1]; cases L <;> simp
  rw [this, i1]
  constructor
  ·rintro ⟨i, hi, hp, _⟩; exact ⟨i, hi, hp⟩
  ·rintro ⟨i, hi, hp⟩; exact ⟨i, hi, hp, by have := (hv.2 i hi).va.sl; omega⟩
 ·have hk32 : k < 32 := by omega
  refine loop2 T.length (fun j out H' => ∃ M : List Int, Own H.size t_3 1 H' out (M.flatMap (encI .i64)) /\ M.length <= 64 * k + j /\ (M ≠ [] ↔ (L ≠ [] \/ ∃ i, i < j /\ (fnAt T i).parent = p /\ (fnAt T i).slot = k)) /\ Ext H H') ⟨L, o1, by omega, ⟨.inl, fun hh => by rcases hh with hh | ⟨i, hi, _⟩; exact hh; omega⟩, e1⟩ ?_
  rintro j out1 H2 hj ⟨M, o2, l2, i2, e2⟩
  unfold F_65_r2
  refine iteB_dec (fun c1 => ?_) (fun c1 => ?_)
  ·have hjn : j < T.length := by omega
   obtain ⟨a, hp, hr⟩ := (h.ext e2).at hjn
   obtain ⟨r0, r1, _⟩ := rdFn hr
   have n2 := Own.len rkInt o2
   have step : ∀ (q : Prop), (q ↔ ((fnAt T j).parent = p /\ (fnAt T j).slot = k)) -> ((∃ i, i < j + 1 /\ (fnAt T i).parent = p /\ (fnAt T i).slot = k) ↔ ((∃ i, i < j /\ (fnAt T i).parent = p /\ (fnAt T i).slot = k) \/ q)) := by
    intro q hq
    rw [hq]
    constructor
    ·rintro ⟨i, hi, hh⟩
     by_cases e : i = j
     ·subst e; exact .inr hh
     ·exact .inl ⟨i, by omega, hh⟩
    ·rintro (⟨i, hi, hh⟩ | hh)
     ·exact ⟨i, by omega, hh⟩
     ·exact ⟨j, by omega, hh⟩
   refine ⟨fun b H' => (b = true ↔ ((fnAt T j).parent = p /\ (fnAt T j).slot = k)) /\ H' = H2, ⟨by omega, by omega, unSome_mk hp ⟨_, r0, iteB_beq (fun d => ⟨by omega, by omega, unSome_mk hp ⟨_, r1, by simp [d], rfl⟩⟩) (fun d => ⟨by simp [d], rfl⟩)⟩⟩, ?_⟩
   rintro b H3 ⟨hb, rfl⟩
   unfold F_65_k1
   refine iteB_intro (fun d => ?_) (fun d => letV_mk _ rfl (next2 hjn (by omega) ⟨M, o2, by omega, ?_, e2⟩))
   ·refine apR rkInt (j : Int) (lo := H.size) o2 (by omega) e2.size ?_
    intro s' H6 ho hn6 m6
    refine letV_mk _ rfl (next2 hjn (by omega) ⟨M ++ [(j : Int)], ho, by simp; omega, ?_, Mods.ext e2 m6 (blkOf_new o2.new)⟩)
    rw [step _ hb]
    simp [d]
   ·rw [step _ hb, i2]
    simp [d]
  ·obtain rfl : j = T.length := by omega
   refine letV_mk _ rfl (next2 hk32 (by omega) ⟨M, o2, by omega, ?_, e2⟩)
   rw [i2, i1]
   constructor
   ·rintro (⟨i, hi, h1, h2⟩ | ⟨i, hi, h1, h2⟩)
    ·exact ⟨i, hi, h1, by omega⟩
    ·exact ⟨i, hi, h1, by omega⟩
   ·rintro ⟨i, hi, h1, h2⟩
    by_cases e : (fnAt T i).slot = k
    ·exact .inr ⟨i, hi, h1, e⟩
    ·exact .inl ⟨i, hi, h1, by omega⟩

end Go.Proofs.YtnhhncjflnlfaaaGreat
end

section
/-
 Adding a card: what the answer is; the contract of the program's Add.
-/
namespace Go.Proofs.YtnhhncjflnlfaaaGreat
open Go.Eng

def zFn : Fn := ⟨0, 0, 0, 0, false, false, false, 0, 0, 0, []⟩
def ValidL (L : List Fn) : Prop := ValidT (L.map (fun f => (f, ⟨none, 0, 0⟩)))
theorem fnAt_map (L : List Fn) (i : Nat) : fnAt (L.map (fun f => (f, (⟨none, 0, 0⟩ : Sl)))) i = L.getD i zFn := by
 unfold fnAt
 by_cases h : i < L.length
 ·simp [List.getD, h]
 ·simp [List.getD, List.getElem?_eq_none (Nat.le_of_not_lt h)]; rfl
theorem fnAt_fns (T : List FS) (i : Nat) : fnAt T i = (fns T).getD i zFn := by
 unfold fnAt
 by_cases h : i < T.length
 ·simp [List.getD, h]
 ·simp [List.getD, List.getElem?_eq_none (Nat.le_of_not_lt h)]; rfl
theorem ValidT_congr {T T' : List FS} (hl : T.length = T'.length) (h : ∀ i, fnAt T i = fnAt T' i) : ValidT T ↔ ValidT T' := by
 have key : ∀ {T T' : List FS}, T.length = T'.length -> (∀ i, fnAt T i = fnAt T' i) -> ValidT T -> ValidT T' := fun {T T'} hl h hv => by
  refine ⟨by rw [<- hl]; exact hv.1, fun i hi => ?_⟩
  obtain ⟨a, b, c, d⟩ := hv.2 i (by omega)
  refine ⟨?_, ?_, ?_, ?_⟩
  ·rw [<- h]; exact a
  ·rw [<- h]; exact b
  ·rw [<- h, <- h]; exact c
  ·intro k hk; rw [<- h, <- h]; exact d k hk
 exact ⟨key hl h, key hl.symm (fun i => (h i).symm)⟩
theorem ValidT_iff (T : List FS) : ValidT T ↔ ValidL (fns T) := ValidT_congr (by simp) (fun i => by rw [fnAt_map, fnAt_fns])
def adj (p n : Int) (f : Fn) : Fn := { f with parent := if f.parent = -1 then p else f.parent + n }
def ParOk (C : List Fn) : Prop := ∀ i, i < C.length -> -1 <= (C.getD i zFn).parent /\ (C.getD i zFn).parent < i
def addL (T C : List FS) (p : Int) : List Fn := fns T ++ (fns C).map (adj p T.length)
def GoodC (T C : List FS) (p : Int) : Prop := ParOk (fns C) /\ ValidL (addL T C p)

def AddIs (T C : List FS) (p e : Int) (L : List Fn) : Prop :=
 (¬ ValidT T /\ e = 1 /\ L = []) \/ (ValidT T /\ ¬ IsPort T p /\ e = 6 /\ L = []) \/ (ValidT T /\ IsPort T p /\ Busy T p /\ e = 17 /\ L = []) \/
 (ValidT T /\ IsPort T p /\ ¬ Busy T p /\ ¬ GoodC T C p /\ e = 1 /\ L = []) \/ (ValidT T /\ IsPort T p /\ ¬ Busy T p /\ GoodC T C p /\ e = 0 /\ L = addL T C p)

theorem Topo.nil (H : Heap) : Topo H ⟨none, 0, 0⟩ [] := ⟨IsS.nil _ _ _, fun x hx => by cases hx⟩
theorem GT.append {H : Heap} {T : List FS} {f : Fn} {s : Sl} (h : GT H T) (hb : Bars H s f.bars) (ht : TyB H s.p t_101) : GT H (T ++ [(f, s)]) := by
 intro x hx
 simp only [List.mem_append, List.mem_singleton] at hx
 rcases hx with hx | rfl
 ·exact h x hx
 ·exact ⟨hb, ht⟩

theorem take_fns {T : List FS} {k : Nat} (hk : k < T.length) : (fns T).take (k + 1) = (fns T).take k ++ [fnAt T k] := by
 rw [List.take_add_one, Topo.fnsAt hk]; rfl

theorem getD_take_fn {T : List FS} {k : Nat} (_hk : k < T.length) : (fns T).getD k zFn = fnAt T k := (fnAt_fns T k).symm

theorem adj_take {T : List FS} {k : Nat} (p n : Int) (hk : k < T.length) : ((fns T).map (adj p n)).take (k + 1) = ((fns T).map (adj p n)).take k ++ [adj p n (fnAt T k)] := by
 rw [<- List.map_take, take_fns hk, List.map_append, <- List.map_take (f := adj p n)]; rfl

end Go.Proofs.YtnhhncjflnlfaaaGreat
end

section
/-
 The contract of the reference's Add; ports that the laws choose; the law HotplugAdds.
-/
namespace Go.Proofs.YtnhhncjflnlfaaaGreat
open Go.Eng

theorem copyBars {B : List Bar} {s : Sl} {H : Heap} {K : Value -> Heap -> Prop} (h : Bars H s B) (hb : B.length * 16 <= 140737488355328) (hK : ∀ (c : Sl) (H' : Heap), Own H.size t_101 2 H' c (B.flatMap encBar) -> Ext H H' -> K (.slice c.p c.n c.c) H') :
  runH Tryz.prog (Builtin.append_ #[t_56, t_56] t_56 #[.slice none 0 0, .slice s.p s.n s.c]) H K := by
 refine apA rkBar (s := ⟨none, 0, 0⟩) (l := []) (lo := H.size) (Own.nil _ _ _ _) h (by simpa using hb) (Nat.le_refl _) ?_
 intro c H' o n m _
 exact hK c H' (by simpa using o) (m.to_ext)

theorem rAddC_spec (T C : List FS) (s c : Sl) (p : Int) (H : Heap) (hT : Topo H s T) (hC : Topo H c C) (hcl : C.length <= 1000) (hcb : ∀ x ∈ C, x.1.bars.length * 16 <= 140737488355328) :
  CallsH Tryz.prog n_23 #[.slice s.p s.n s.c, .int .i64 p, .slice c.p c.n c.c] H (fun v H' => ∃ (out : Sl) (e : Int) (L : List Fn) (T' : List FS), v = .tuple #[.slice out.p out.n out.c, .int .i64 e] /\ AddIs T C p e L /\ fns T' = L /\ Topo H' out T' /\ Ext H H' /\ out.n <= out.c /\ (e = 0 -> ∃ C1, T' = T ++ C1) /\ (GT H T -> TyB H' out.p t_58 /\ GT H' T')) := by
 refine F_23_ok _ _ _ ?_
 unfold F_23
 have hn := hT.len
 have hcn := hC.len
 have no : ∀ e H', e ≠ 0 -> AddIs T C p e [] -> Ext H H' -> ∃ (out : Sl) (e' : Int) (L : List Fn) (T' : List FS), (.tuple #[.slice none 0 0, .int .i64 e] : Value) = .tuple #[.slice out.p out.n out.c, .int .i64 e'] /\ AddIs T C p e' L /\ fns T' = L /\ Topo H' out T' /\ Ext H H' /\ out.n <= out.c /\ (e' = 0 -> ∃ C1, T' = T ++ C1) /\ (GT H T -> TyB H' out.p t_58 /\ GT H' T') := fun e H' hz ha he => ⟨⟨none, 0, 0⟩, e, [], [], rfl, ha, rfl, Topo.nil _, he, Nat.le_refl _, fun h => absurd h hz, fun _ => ⟨(fun a h => by cases h), (fun x hx => by cases hx)⟩⟩
 refine (rVal_spec T s H hT).mono ?_
 rintro v H1 ⟨rfl, e1⟩
 refine ⟨_, rfl, iteB_not (fun d => no _ _ (by decide) (.inl ⟨by simpa using d, rfl, rfl⟩) e1) (fun d => ?_)⟩
 have hv : ValidT T := by simpa using d
 have hl64 := hv.1
 refine (rport_spec T s p H1 (hT.ext e1)).mono ?_
 rintro v H2 ⟨rfl, rfl⟩
 refine ⟨_, rfl, iteB_not (fun d => no _ _ (by decide) (.inr (.inl ⟨hv, by simpa using d, rfl, rfl⟩)) e1) (fun d => ?_)⟩
 have hport : IsPort T p := by simpa using d
 refine (rBelow18_spec T s p H2 (hT.ext e1) hv).mono ?_
 rintro v H3 ⟨bl, rfl, hbl, e3⟩
 have x3 := e1.trans e3
 refine ⟨bl, rfl, iteB_dec (fun d1 => no _ _ (by decide) (.inr (.inr (.inl ⟨hv, hport, hbl.1 (by omega), rfl, rfl⟩))) x3) (fun d1 => ?_)⟩
 have hbusy : ¬ Busy T p := fun hb => by have := hbl.2 hb; omega
 have bad : ∀ H', Ext H H' -> ¬ GoodC T C p -> ∃ (out : Sl) (e' : Int) (L : List Fn) (T' : List FS), (.tuple #[.slice none 0 0, .int .i64 1] : Value) = .tuple #[.slice out.p out.n out.c, .int .i64 e'] /\ AddIs T C p e' L /\ fns T' = L /\ Topo H' out T' /\ Ext H H' /\ out.n <= out.c /\ (e' = 0 -> ∃ C1, T' = T ++ C1) /\ (GT H T -> TyB H' out.p t_58 /\ GT H' T') := fun H' he hg => no 1 H' (by decide) (.inr (.inr (.inr (.inl ⟨hv, hport, hbusy, hg, rfl, rfl⟩)))) he
 refine apA rkFn (s := ⟨none, 0, 0⟩) (l := []) (lo := H3.size) (Own.nil _ _ _ _) (hT.is.ext x3) (by simp; omega) (Nat.le_refl _) ?_
 intro out H4 o4 n4 m4 _
 have x4 : Ext H H4 := x3.trans m4.to_ext
 refine ⟨out, rfl, ?_⟩
 have o4' : Own H.size t_58 11 H4 out (T.flatMap encF) := by
  rw [List.nil_append] at o4
  obtain ⟨a, b⟩ := o4
  refine ⟨a, ?_⟩
  rcases b with b | ⟨g, cap, cur, u, v, w⟩
  ·exact .inl b
  ·exact .inr ⟨g, cap, cur, u, Nat.le_trans x3.size v, w⟩
 refine loop2 C.length (fun k out H' => ∃ C1 : List FS, fns C1 = ((fns C).map (adj p T.length)).take k /\ Own H.size t_58 11 H' out ((T ++ C1).flatMap encF) /\ GT H' C1 /\ Ext H H' /\ ∀ i, i < k -> -1 <= (fnAt C i).parent /\ (fnAt C i).parent < i) ⟨[], rfl, by simpa using o4', (fun x hx => by cases hx), x4, fun i hi => by omega⟩ ?_
 rintro k out2 H5 hk ⟨C1, hC1, o5, g5, e5, hpar⟩
 unfold F_23_r3
 have hc1 : C1.length = k := by have := congrArg List.length hC1; simp at this; omega
 have n5 := Own.len rkFn o5
 rw [List.length_append] at n5
 refine iteB_dec (fun c1 => ?_) (fun c1 => ?_)
 ·have hkn : k < C.length := by omega
  obtain ⟨a, hp, hr⟩ := (hC.ext e5).at hkn
  obtain ⟨p0, p1, p2, p3, p4, p5, p6, p7, p8, p9, p10⟩ := rdFn hr
  have hbars := hC.barsAt hkn
  have hbl : (fnAt C k).bars.length * 16 <= 140737488355328 := by
   have : C.getD k zF = C[k] := by simp [List.getD, hkn]
   unfold fnAt; rw [this]; exact hcb _ (List.getElem_mem hkn)
  have hadj := adj_take p T.length hkn
  have hparG : GoodC T C p -> -1 <= (fnAt C k).parent /\ (fnAt C k).parent < k := fun hg => by
   have := hg.1 k (by simpa using hkn)
   rw [getD_take_fn hkn] at this
   exact this
  generalize hF : fnAt C k = f at *
  generalize slAt C k = fs at *
  refine ⟨by omega, by omega, unSome_mk hp ⟨_, p0, _, p1, _, p2, _, p3, _, p4, _, p5, _, p6, _, p7, _, p8, _, p9, fs, p10, local_mk (vs := fnL f fs) rfl rfl fun H7 e7 z7 b7 => ⟨fs, b7.rd (i := 10) rfl, copyBars (hbars.ext (e5.trans e7)) hbl ?_⟩⟩⟩
  intro cs H8 o8 e8
  refine ⟨cs, rfl, (b7.ext e8).ok (by simp), letH_mk ?_⟩
  intro H9 h9
  have b9 : Blk H9 H5.size t_58 (fnL f cs) := by rw [h9]; exact (b7.ext e8).wr1
  have m9 : Mods [H5.size] H8 H9 := by rw [h9]; exact mods_wr_add (by simp)
  clear h9
  have n8 : ∀ a, cs.p = some a -> a.block ∉ [H5.size] := fun a ha => by have := o8.new a ha; simp; omega
  have o9 := o8.mods m9 n8
  have e59 : Ext H5 H9 := Mods.ext (e7.trans e8) m9 (by simp)
  have x9 := e5.trans e59
  have bt9 : TyB H9 (some ⟨H5.size, 0, none⟩) t_58 := fun a ha => by cases ha; exact ⟨_, _, b9⟩
  have n9 : ∀ a, cs.p = some a -> a.block ∉ [H5.size] := fun a ha => by have := ty_ne (own_ty o9) bt9 (by decide) a ha; simpa [blkOf] using this
  refine ⟨fun H' => Blk H' H5.size t_58 (fnL (adj p T.length f) cs) /\ Mods [H5.size] H9 H' /\ -1 <= f.parent /\ f.parent < k, ⟨fun b H' => (b = true ↔ ¬ (-1 <= f.parent /\ f.parent < k)) /\ H' = H9, ⟨_, b9.rd0 rfl, iteB_dec (fun d => ⟨by simp; omega, rfl⟩) (fun d => ⟨_, b9.rd0 rfl, by simp; omega, rfl⟩)⟩, ?_⟩, ?_⟩
  ·rintro b H10 ⟨hb, rfl⟩
   unfold F_23_k1
   refine iteB_intro (fun d => bad _ x9 (fun hg => hb.1 d (hparG hg))) (fun d => ?_)
   have hpk : -1 <= f.parent /\ f.parent < k := by
    by_cases hh : -1 <= f.parent /\ f.parent < k
    ·exact hh
    ·have := hb.2 hh; rw [d] at this; cases this
   refine ⟨_, b9.rd0 rfl, iteB_beq (fun d2 => ⟨b9.ok0 (by simp), letH_mk ?_⟩) (fun d2 => ⟨_, b9.rd0 rfl, b9.ok0 (by simp), letH_mk ?_⟩)⟩
   ·rintro H11 rfl
    refine ⟨?_, Mods.wrs (by simp), hpk⟩
    have := b9.wr (o := 0) (ws := [.int .i64 p])
    have e : adj p T.length f = { f with parent := p } := by unfold adj; rw [if_pos d2]
    rw [e]
    exact this
   ·rintro H11 rfl
    refine ⟨?_, Mods.wrs (by simp), hpk⟩
    have := b9.wr (o := 0) (ws := [.int .i64 (IntKind.i64.wrap (f.parent + (s.n : Int)))])
    rw [i64_in (by omega)] at this ⊢
    have e : adj p T.length f = { f with parent := f.parent + s.n } := by unfold adj; rw [if_neg d2, hn]
    rw [e]
    exact this
  ·rintro H13 ⟨b13, m13, hpk⟩
   unfold F_23_k2
   obtain ⟨u0, u1, u2, u3, u4, u5, u6, u7, u8, u9, u10⟩ := Blk.fn b13
   have e513 : Ext H5 H13 := Mods.ext e59 m13 (by simp)
   have o13 := o9.mods m13 n9
   refine ⟨_, u0, _, u1, _, u2, _, u3, _, u4, _, u5, _, u6, _, u7, _, u8, _, u9, cs, u10, ?_⟩
   refine apR rkFn (adj p T.length f, cs) (lo := H.size) (o5.ext e513) (by omega) (e5.trans e513).size ?_
   intro s' H15 ho hn15 m15
   have nout : ∀ q, TyB H13 q t_101 -> ∀ a, q = some a -> a.block ∉ blkOf out2.p := fun q hq a ha => ty_ne hq (own_ty (o5.ext e513)) (by decide) a ha
   refine letV_mk _ rfl (next2 hkn (by omega) ⟨C1 ++ [(adj p T.length f, cs)], ?_, ?_, ?_, Mods.ext (e5.trans e513) m15 (blkOf_new o5.new), fun i hi => ?_⟩)
   ·rw [hadj, <- hC1]; simp
   ·rw [<- List.append_assoc]; exact ho
   ·exact (GT.append (f := adj p T.length f) (g5.ext e513) (Own.is rkBar o13) (own_ty o13)).mods m15 nout
   ·by_cases e : i = k
    ·subst e; rw [hF]; exact hpk
    ·exact hpar i (by omega)
 ·obtain rfl : k = C.length := by omega
  have hfull : fns (T ++ C1) = addL T C p := by
   show List.map _ _ = _
   rw [List.map_append]
   show fns T ++ fns C1 = _
   rw [hC1, List.take_of_length_le (by simp)]
   rfl
  have hT5 : Topo H5 out2 (T ++ C1) := ⟨Own.is rkFn o5, fun x hx => by
   simp only [List.mem_append] at hx
   rcases hx with hx | hx
   ·exact (hT.bars x hx).ext e5
   ·exact (g5 x hx).1⟩
  have hiff : ValidT (T ++ C1) ↔ ValidL (addL T C p) := by rw [ValidT_iff, hfull]
  refine (rVal_spec (T ++ C1) out2 H5 hT5).mono ?_
  rintro v H16 ⟨rfl, e16⟩
  refine ⟨_, rfl, iteB_not (fun d => bad _ (e5.trans e16) (fun hg => by simp at d; exact d (hiff.2 hg.2))) (fun d => ?_)⟩
  have hval : ValidT (T ++ C1) := by simpa using d
  refine ⟨out2, 0, _, T ++ C1, rfl, .inr (.inr (.inr (.inr ⟨hv, hport, hbusy, ⟨fun i hi => ?_, hiff.1 hval⟩, rfl, rfl⟩))), hfull, hT5.ext e16, e5.trans e16, o5.cap, fun _ => ⟨C1, rfl⟩, fun hg => ⟨TyB.mods (S := []) (own_ty o5) e16.mods (fun _ _ => by simp), fun x hx => ?_⟩⟩
  ·have hi' : i < C.length := by simpa using hi
   rw [getD_take_fn hi']
   exact hpar i hi'
  ·simp only [List.mem_append] at hx
   rcases hx with hx | hx
   ·exact (hg.ext (e5.trans e16)) x hx
   ·exact (g5.ext e16) x hx

theorem lport_spec (T : List FS) (s : Sl) (at' : Int) (H : Heap) (h : Topo H s T) (hl : T.length <= 1000) :
  CallsH Tryz.prog n_24 #[.slice s.p s.n s.c, .int .i64 at'] H (fun v H' => ∃ p : Int, v = .int .i64 p /\ (p = -1 \/ IsPort T p) /\ Ext H H') := by
 refine F_24_ok _ _ ?_
 unfold F_24
 have hn := h.len
 refine loop2 T.length (fun k out H' => ∃ L : List Int, Own H.size t_3 1 H' out (L.flatMap (encI .i64)) /\ L.length <= k /\ (∀ x ∈ L, IsPort T x) /\ Ext H H') ⟨[], Own.nil _ _ _ _, by simp, (fun x hx => by cases hx), .refl _⟩ ?_
 rintro k out H1 hk ⟨L, o1, l1, i1, e1⟩
 unfold F_24_r1
 have n1 := Own.len rkInt o1
 refine iteB_dec (fun c => ?_) (fun c => ?_)
 ·have hkn : k < T.length := by omega
  obtain ⟨a, hp, hr⟩ := (h.ext e1).at hkn
  obtain ⟨_, _, _, _, _, _, r6, _⟩ := rdFn hr
  refine ⟨by omega, by omega, unSome_mk hp ⟨_, r6, iteB_intro (fun d => ?_) (fun d => letV_mk _ rfl (next2 hkn (by omega) ⟨L, o1, by omega, i1, e1⟩))⟩⟩
  refine apR rkInt (k : Int) (lo := H.size) o1 (by omega) e1.size ?_
  intro s' H3 ho hn3 m3
  refine letV_mk _ rfl (next2 hkn (by omega) ⟨L ++ [(k : Int)], ho, by simp; omega, fun x hx => ?_, Mods.ext e1 m3 (blkOf_new o1.new)⟩)
  simp only [List.mem_append, List.mem_singleton] at hx
  rcases hx with hx | rfl
  ·exact i1 x hx
  ·exact ⟨by omega, by rw [Int.toNat_natCast]; exact d⟩
 ·refine iteB_beq (fun d => ⟨-1, rfl, .inl rfl, e1⟩) (fun d => (Mod_spec _ _ H1 (by omega) (by omega)).mono ?_)
  rintro v H4 ⟨rfl, rfl⟩
  have hm := modI_range at' (n := (out.n : Int)) (by omega)
  obtain ⟨j, hj⟩ := Int.eq_ofNat_of_zero_le hm.1
  have hj' : j < L.length := by omega
  obtain ⟨a, hp, hr⟩ := Ints.atN (Own.is rkInt o1) hj'
  refine ⟨_, rfl, by omega, by omega, unSome_mk hp ⟨_, by rw [hj]; exact hr, _, rfl, .inr (i1 _ (getD_mem' 0 hj')), e1⟩⟩

theorem valid_regs {T : List FS} (hv : ValidT T) : ∀ x ∈ T, x.1.bars.length <= 6 := fun x hx => by
 obtain ⟨i, hi, rfl⟩ := List.getElem_of_mem hx
 have h1 := (hv.2 i hi).va.bl
 have h2 : T.getD i zF = T[i] := by simp [List.getD, hi]
 unfold fnAt at h1
 rw [h2] at h1
 have h3 : regs T[i].1.bridge <= 6 := by unfold regs; split <;> omega
 omega
theorem gtopo_len {most : Nat} {H : Heap} {v : Value} {H' : Heap} (h : GTopo most H v H') (_hm : most <= 64) : ∃ (t : Sl) (T : List FS), v = .slice t.p t.n t.c /\ Topo H' t T /\ ValidT T /\ T.length <= most /\ Ext H H' /\ (∀ x ∈ T, x.1.bars.length <= 6) := by
 obtain ⟨t, T, rfl, hT, hv, hl, e⟩ := h
 exact ⟨t, T, rfl, hT, hv, by omega, e, valid_regs hv⟩

end Go.Proofs.YtnhhncjflnlfaaaGreat
end
