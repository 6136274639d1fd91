/-
 Helpers that the laws share: Mod; blocks of a slice of one's own.
-/
import Derived.Test.YtnhhncjflnlfaaaGreatW
import Derived.Test.YtnhhncjflnlfaaaGreatEngM
namespace Go.Proofs.YtnhhncjflnlfaaaGreat
open Go.Eng

def modI (v n : Int) : Int := IntKind.u64.wrap v % n

theorem modI_range (v : Int) {n : Int} (hn : 0 < n) : 0 <= modI v n /\ modI v n < n :=
 ⟨Int.emod_nonneg _ (by omega), Int.emod_lt_of_pos _ hn⟩

theorem Mod_spec (v n : Int) (H : Heap) (hn : 0 < n) (hn2 : n <= 9223372036854775807) :
  CallsH Tryz.prog n_9 #[.int .i64 v, .int .i64 n] H (fun r H' => r = .int .i64 (modI v n) /\ H' = H) := by
 refine F_9_ok v n ?_
 unfold F_9
 have hw : IntKind.u64.wrap n = n := u64_in (by omega)
 rw [hw]
 rw [Int.tmod_eq_emod_of_nonneg (u64_nonneg v)]
 have h1 := modI_range v hn
 refine ⟨by omega, letV_mk _ rfl ?_⟩
 have h2 : IntKind.i64.wrap (IntKind.u64.wrap v % n) = modI v n := i64_in (by unfold modI at h1; omega)
 rw [h2]
 exact ⟨rfl, rfl⟩

theorem Mod_pure (v n : Int) (hn : 0 < n) (hn2 : n <= 9223372036854775807) {K : Value -> Prop} (h : K (.int .i64 (modI v n))) :
  CallsP Tryz.prog n_9 #[.int .i64 v, .int .i64 n] K := ⟨_, fun H => Mod_spec v n H hn hn2, h⟩

theorem blkOf_new {n : Nat} {p : Option Addr} (h : NewP n p) : ∀ x ∈ blkOf p, n <= x := by
 intro x hx
 cases p with
 | none => cases hx
 | some a => simp [blkOf] at hx; subst hx; exact h a rfl

theorem tab_succ {α : Type} (n : Nat) (f : Nat -> α) : tab (n + 1) f = tab n f ++ [f n] := by
 unfold tab; rw [List.range_succ]; simp

end Go.Proofs.YtnhhncjflnlfaaaGreat
