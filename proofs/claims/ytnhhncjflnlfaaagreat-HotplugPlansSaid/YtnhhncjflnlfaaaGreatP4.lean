/-
 The program's take.
-/
import Derived.Test.YtnhhncjflnlfaaaGreatP3
namespace Go.Proofs.YtnhhncjflnlfaaaGreat
open Go.Eng
set_option linter.unusedVariables false

def TakeP (lo : Nat) (L : List Rg) (P : Int) (H : Heap) (s : Sl) (v : Value) (H' : Heap) : Prop :=
 ∃ (b : Int) (x : Sl) (ok : Bool), v = .tuple #[.int .u64 b, .slice x.p x.n x.c, .bool ok] /\
  ((ok = false /\ takeF L P = none /\ Ext H H') \/ (ok = true /\ ∃ L', takeF L P = some (b, L') /\ Own lo t_95 2 H' x (L'.flatMap encR) /\ Mods (blkOf s.p) H H'))

theorem find_none_of {L : List Rg} {q : Rg -> Bool} (h : ∀ i, i < L.length -> q (L.getD i (0, 0)) = false) : L.find? q = none := by
 rw [List.find?_eq_none]
 intro x hx hq
 obtain ⟨i, hi, rfl⟩ := List.getElem_of_mem hx
 have := h i hi
 simp [List.getD, hi] at this
 rw [this] at hq
 cases hq
theorem find_at {L : List Rg} {q : Rg -> Bool} {k : Nat} (hk : k < L.length) (h : ∀ i, i < k -> q (L.getD i (0, 0)) = false) (hq : q (L.getD k (0, 0)) = true) : L.find? q = some (L.getD k (0, 0)) := by
 have e : L = L.take k ++ (L.getD k (0, 0) :: L.drop (k + 1)) := by
  have h1 := take_succ_d ((0, 0) : Rg) hk
  rw [show L.take k ++ (L.getD k (0, 0) :: L.drop (k + 1)) = L.take k ++ [L.getD k (0, 0)] ++ L.drop (k + 1) by simp, <- h1, List.take_append_drop]
 have hn : (L.take k).find? q = none := by
  refine find_none_of (fun i hi => ?_)
  have hik : i < k := by simp at hi; omega
  have e1 : (L.take k).getD i (0, 0) = L.getD i (0, 0) := by simp [List.getD, List.getElem?_take_of_lt hik]
  rw [e1]
  exact h i hik
 conv => lhs; rw [e]
 rw [List.find?_append, hn, List.find?_cons_of_pos hq]
 rfl

theorem take_spec (H : Heap) (s : Sl) (L : List Rg) (k : Int) (lo : Nat) (o : Own lo t_95 2 H s (L.flatMap encR)) (hlo : lo <= H.size) (hk : 0 <= k /\ k <= 44) (ha : Asc L) (hlow : Low L) (hL : L.length <= 100000) :
  CallsH Tryz.prog n_119 #[.slice s.p s.n s.c, .int .i64 k] H (TakeP lo L (2 ^ k.toNat) H s) := by
 refine F_119_ok _ _ ?_
 unfold F_119
 have hn := Own.len rkRange o
 have hP := pow_pos2 k.toNat
 have hP2 := pw_52 (w := k.toNat) (by omega)
 have is0 := Own.is rkRange o
 have hmin := min64' (k := k) (by omega) (by omega)
 refine ⟨by omega, letV_mk (2 ^ k.toNat) (shl1' (by omega) (by omega)) ?_⟩
 refine loop1 L.length (fun i H' => Ext H H' /\ ∀ j, j < i -> fitQ (2 ^ k.toNat) (L.getD j (0, 0)) = false) ⟨.refl _, fun j hj => by omega⟩ ?_
 rintro i H1 hi ⟨e1, hno⟩
 unfold F_119_r3
 refine iteB_dec (fun c1 => ?_) (fun c1 => ⟨0, s, false, rfl, .inl ⟨rfl, ?_, e1⟩⟩)
 ·have hin : i < L.length := by omega
  obtain ⟨a, hp, r0, r1⟩ := Rgs.atN (is0.ext e1) hin
  have hmem := getD_mem' ((0, 0) : Rg) hin
  have hr := hlow _ hmem
  have hL0 : L = L.take i ++ (L.getD i (0, 0) :: L.drop (i + 1)) := by
   have h1 := take_succ_d ((0, 0) : Rg) hin
   rw [show L.take i ++ (L.getD i (0, 0) :: L.drop (i + 1)) = L.take i ++ [L.getD i (0, 0)] ++ L.drop (i + 1) by simp, <- h1, List.take_append_drop]
  have hfind := find_at (q := fitQ (2 ^ k.toNat)) hin hno
  generalize hre : L.getD i (0, 0) = r at *
  refine ⟨by omega, by omega, unSome_mk hp ⟨_, r0, _, r1, local_mk (vs := encR r) rfl rfl fun H3 e3 z3 b3 => ?_⟩⟩
  have x3 := e1.trans e3
  have p0 := b3.rd0 (v := .int .u64 r.1) rfl
  have p1 := b3.rd (i := 1) (v := .int .u64 r.2) rfl
  have hcd := cd_spec (a := r.1) hP
  have hcdv : IntKind.u64.wrap (((IntKind.u64.wrap (IntKind.u64.wrap (r.1 + 2 ^ k.toNat) - 1)).fdiv (2 ^ (min k.toNat IntKind.u64.bits))) * 2 ^ (min k.toNat IntKind.u64.bits)) = cd r.1 (2 ^ k.toNat) * 2 ^ k.toNat := by
   rw [hmin, u64_in (n := r.1 + 2 ^ k.toNat) (by omega), u64_in (n := r.1 + 2 ^ k.toNat - 1) (by omega), fdiv_pow]
   exact u64_in (by unfold cd at hcd; omega)
  refine ⟨_, p0, by omega, by omega, letV_mk _ hcdv ⟨_, p0, _, p1, letV_mk (r.1 + r.2) (u64_in (by omega)) ?_⟩⟩
  have hfq : fitQ (2 ^ k.toNat) r = decide (cd r.1 (2 ^ k.toNat) * 2 ^ k.toNat + 2 ^ k.toNat <= r.1 + r.2) := rfl
  generalize hbe : cd r.1 (2 ^ k.toNat) * 2 ^ k.toNat = base at *
  have hnext : fitQ (2 ^ k.toNat) r = false -> ∀ j, j < i + 1 -> fitQ (2 ^ k.toNat) (L.getD j (0, 0)) = false := fun hf j hj => by
   by_cases e : j = i
   ·subst e; rw [hre]; exact hf
   ·exact hno j (by omega)
  refine iteB_dec (fun d1 => next1 hin (by omega) ⟨x3, hnext (by rw [hfq]; simp; omega)⟩) (fun d1 => ?_)
  rw [u64_in (n := r.1 + r.2 - base) (by omega)]
  refine iteB_dec (fun d2 => next1 hin (by omega) ⟨x3, hnext (by rw [hfq]; simp; omega)⟩) (fun d2 => ?_)
  -- it fits
  have hfit : fitQ (2 ^ k.toNat) r = true := by rw [hfq]; simp; omega
  have hf := hfind hfit
  have htk : takeF L (2 ^ k.toNat) = some (base, rmF L (base, 2 ^ k.toNat)) := by
   unfold takeF
   rw [hf]
   simp only [hbe]
  have hpc : piece r (base, 2 ^ k.toNat) = (if r.1 < base then [(r.1, base - r.1)] else []) ++ (if base + 2 ^ k.toNat < r.1 + r.2 then [(base + 2 ^ k.toNat, r.1 + r.2 - (base + 2 ^ k.toNat))] else []) := by
   unfold piece
   rw [if_neg (by dsimp only; omega)]
  have hrm : rmF L (base, 2 ^ k.toNat) = L.take i ++ piece r (base, 2 ^ k.toNat) ++ L.drop (i + 1) := by
   conv => lhs; rw [hL0]
   refine rmF_in (by rw [<- hL0]; exact ha) (by dsimp only; omega) (by dsimp only; omega) (by dsimp only; omega)
  generalize hA : (if r.1 < base then [(r.1, base - r.1)] else [] : List Rg) = A at *
  generalize hB : (if base + 2 ^ k.toNat < r.1 + r.2 then [(base + 2 ^ k.toNat, r.1 + r.2 - (base + 2 ^ k.toNat))] else [] : List Rg) = B at *
  have hAl : A.length <= 1 := by rw [<- hA]; split <;> simp
  have hBl : B.length <= 1 := by rw [<- hB]; split <;> simp
  refine ⟨fun parts H' => Own H3.size t_95 2 H' parts (A.flatMap encR) /\ (A = [] -> parts = ⟨none, 0, 0⟩) /\ Ext H3 H', ⟨_, p0, iteB_dec (fun d3 => ⟨_, p0, _, p0, ?_⟩) (fun d3 => ?_)⟩, ?_⟩
  ·rw [u64_in (n := base - r.1) (by omega)]
   refine apR rkRange ((r.1, base - r.1) : Rg) (lo := H3.size) (s := ⟨none, 0, 0⟩) (l := []) (Own.nil _ _ _ _) (by simp) (Nat.le_refl _) ?_
   intro s' H5 o5 n5 m5
   rw [<- hA, if_pos (by omega)]
   exact ⟨o5, by simp, Mods.ext (.refl _) m5 (by simp [blkOf])⟩
  ·rw [<- hA, if_neg (by omega)]
   exact ⟨Own.nil _ _ _ _, fun _ => rfl, .refl _⟩
  ·rintro parts1 H6 ⟨o6, nil6, e6⟩
   unfold F_119_k2
   have n6 := Own.len rkRange o6
   refine ⟨fun parts H' => Own H3.size t_95 2 H' parts ((A ++ B).flatMap encR) /\ (A ++ B = [] -> parts = ⟨none, 0, 0⟩) /\ Ext H3 H', ?_, ?_⟩
   ·rw [u64_in (n := base + 2 ^ k.toNat) (by omega), u64_in (n := r.1 + r.2 - base) (by omega), u64_in (n := r.1 + r.2 - base - 2 ^ k.toNat) (by omega)]
    refine iteB_dec (fun d4 => ?_) (fun d4 => ?_)
    ·refine apR rkRange ((base + 2 ^ k.toNat, r.1 + r.2 - base - 2 ^ k.toNat) : Rg) (lo := H3.size) o6 (by omega) e6.size ?_
     intro s' H8 o8 n8 m8
     have hBv : B = [(base + 2 ^ k.toNat, r.1 + r.2 - base - 2 ^ k.toNat)] := by
      rw [<- hB, if_pos (by omega)]
      congr 2
      omega
     rw [hBv]
     exact ⟨o8, by simp, Mods.ext e6 m8 (blkOf_new o6.new)⟩
    ·have hBv : B = [] := by rw [<- hB, if_neg (by omega)]
     rw [hBv, List.append_nil]
     exact ⟨o6, nil6, e6⟩
   ·rintro parts3 H9 ⟨o9, nil9, e9⟩
    unfold F_119_k1
    have x9 := x3.trans e9
    rw [show IntKind.i64.wrap ((i : Int) + 1) = ((i + 1 : Nat) : Int) by rw [i64_in (by omega)]; omega]
    refine (Replace_spec H9 s parts3 L (A ++ B) lo H3.size i (o.ext x9) o9 (fun a b h1 h2 => ?_) nil9 (Nat.le_trans hlo x9.size) hin (by rw [List.length_append]; omega) (by omega)).mono ?_
    ·have h3 := o.lt a h1
     have h4 := o9.new b h2
     have h5 := x3.size
     omega
    ·rintro v H10 ⟨x, rfl, o10, m10⟩
     refine ⟨x, rfl, base, x, true, rfl, .inr ⟨rfl, _, htk, ?_, ?_⟩⟩
     ·rw [hrm, hpc]; exact o10
     ·exact x9.mods.trans m10
 ·unfold takeF
  rw [find_none_of (fun j hj => hno j (by omega))]

end Go.Proofs.YtnhhncjflnlfaaaGreat
