/-
 Kinds of rows; equality of lists of integers and of registers; the first elements of a slice.
-/
import Derived.Test.YtnhhncjflnlfaaaGreatJG
import Derived.Test.YtnhhncjflnlfaaaGreatEngQ
namespace Go.Proofs.YtnhhncjflnlfaaaGreat
open Go.Eng

theorem rkBar : RK Tryz.prog t_56 t_101 (.agg #[.int .i64 0, .int .i64 0]) 2 16 encBar := ⟨by kernel_rfl, by kernel_rfl, rfl, by omega, by omega, encBar_len, encBar_one⟩
theorem rkInt : RK Tryz.prog t_52 t_3 (.int .i64 0) 1 8 (encI .i64) := ⟨by kernel_rfl, by kernel_rfl, rfl, by omega, by omega, ints_row _, ints_one _⟩
theorem rkFn : RK Tryz.prog t_22 t_58 (.agg #[.int .i64 0, .int .i64 0, .int .i64 0, .int .i64 0, .bool false, .bool false, .bool false, .int .i64 0, .int .i64 0, .int .i64 0, .slice none 0 0]) 11 88 encF :=
 ⟨by kernel_rfl, by kernel_rfl, rfl, by omega, by omega, encF_len, encF_one⟩

theorem slP0 (p : Option Addr) (m s : Nat) : slP p m 0 s = p := by
 unfold slP
 split
 ·rfl
 ·cases p with
  | none => rfl
  | some a => simp [Addr.add]

theorem IsS.takeS {α : Type} {sz : Nat} {enc : α -> List Value} {H : Heap} {s : Sl} {l : List α} (h : IsS sz enc H s l) (m c : Nat) (hm : m <= l.length) : IsS sz enc H ⟨s.p, m, c⟩ (l.take m) := by
 refine ⟨by simp; omega, ?_⟩
 rcases h.row with e | ⟨a, hp, hr⟩
 ·subst e; exact .inl (by simp)
 ·refine .inr ⟨a, hp, fun i x hx => hr i x ?_⟩
  rw [List.getElem?_take] at hx
  split at hx
  ·exact hx
  ·cases hx
theorem Topo.takeS {H : Heap} {s : Sl} {T : List FS} (h : Topo H s T) (m c : Nat) (hm : m <= T.length) : Topo H ⟨s.p, m, c⟩ (T.take m) :=
 ⟨IsS.takeS h.is m c hm, fun x hx => h.bars x (List.mem_of_mem_take hx)⟩

theorem Equal_int_spec (H : Heap) (a b : Sl) (A B : List Int) (ha : IsS 1 (encI .i64) H a A) (hb : IsS 1 (encI .i64) H b B) (hl : A.length <= 9223372036854775807) :
  CallsH Tryz.prog n_43 #[.slice a.p a.n a.c, .slice b.p b.n b.c] H (fun v H' => v = .bool (decide (A = B)) /\ H' = H) := by
 refine F_43_ok _ _ ?_
 unfold F_43
 have na := ha.len
 have nb := hb.len
 refine iteB_bne (fun c => ⟨by rw [decide_eq_false (fun e => c (by rw [na, nb, e]))], rfl⟩) (fun c => ?_)
 have hlen : A.length = B.length := by omega
 refine loop1 A.length (fun k H' => H' = H /\ ∀ i, i < k -> A[i]? = B[i]?) ⟨rfl, fun i hi => by omega⟩ ?_
 rintro k H1 hk ⟨rfl, heq⟩
 unfold F_43_r1
 refine iteB_dec (fun c1 => ?_) (fun c1 => ⟨?_, rfl⟩)
 ·have hkA : k < A.length := by omega
  have hkB : k < B.length := by omega
  obtain ⟨p, hp, hr⟩ := IsS.atN ha (0 : Int) hkA
  obtain ⟨q, hq, hs⟩ := IsS.atN hb (0 : Int) hkB
  have eA : A[k]? = some (A.getD k (0 : Int)) := by simp [List.getD, hkA]
  have eB : B[k]? = some (B.getD k (0 : Int)) := by simp [List.getD, hkB]
  generalize A.getD k (0 : Int) = x at *
  generalize B.getD k (0 : Int) = y at *
  refine ⟨by omega, by omega, unSome_mk hp ⟨_, hr 0 _ rfl, by omega, by omega, unSome_mk hq ⟨_, hs 0 _ rfl, iteB_bne (fun c2 => ⟨?_, rfl⟩) (fun c2 => letV_mk _ rfl (next1 hkA (by omega) ⟨rfl, fun i hi => ?_⟩))⟩⟩⟩
  ·rw [decide_eq_false]
   intro e
   rw [e, eB] at eA
   simp at eA
   exact c2 eA.symm
  ·by_cases e : i = k
   ·subst e
    rw [eA, eB, c2]
   ·exact heq i (by omega)
 ·rw [decide_eq_true]
  apply List.ext_getElem?
  intro i
  by_cases hi : i < A.length
  ·exact heq i (by omega)
  ·rw [List.getElem?_eq_none (by omega), List.getElem?_eq_none (by omega)]

end Go.Proofs.YtnhhncjflnlfaaaGreat
