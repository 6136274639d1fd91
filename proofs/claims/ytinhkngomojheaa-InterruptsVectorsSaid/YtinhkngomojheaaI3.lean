/-
  Vectors, in plain terms.
-/
import Derived.Test.YtinhkngomojheaaI2
namespace Go.Proofs.Ytinhkngomojheaa
open Go.Eng
set_option linter.unusedVariables false

/-- The number of a function's vectors is a power of two. -/
theorem vec_pow {f : Fn} (h : ValidF f) : f.vec = 0 ∨ f.vec = 1 ∨ f.vec = 2 ∨ f.vec = 4 ∨ f.vec = 8 ∨ f.vec = 16 ∨ f.vec = 32 := by
  have key : ∀ n : Fin 33, bitsAnd .i64 (n.val : Int) (IntKind.i64.wrap ((n.val : Int) - 1)) = 0 → n.val = 0 ∨ n.val = 1 ∨ n.val = 2 ∨ n.val = 4 ∨ n.val = 8 ∨ n.val = 16 ∨ n.val = 32 := by decide +kernel
  have hb := h.vc
  have hv := h.vb
  obtain ⟨n, hn⟩ : ∃ n : Nat, f.vec = n := ⟨f.vec.toNat, by omega⟩
  rw [hn] at hv hb ⊢
  have := key ⟨n, by omega⟩ hv
  dsimp only at this
  omega

def lg (v : Int) : Int := if v = 1 then 0 else if v = 2 then 1 else if v = 4 then 2 else if v = 8 then 3 else if v = 16 then 4 else 5
theorem lg_range (v : Int) : 0 ≤ lg v ∧ lg v ≤ 5 := by unfold lg; repeat' split
                                                       all_goals omega

/-- Functions with message interrupts, among the first. -/
def useN (T : List FS) (k : Nat) : List Nat := (List.range k).filter (fun i => decide (0 < (fnAt T i).vec))
def uF (T : List FS) (k : Nat) : List Int := (useN T k).map (fun i : Nat => (i : Int))
def sF (T : List FS) (k : Nat) : List Int := (useN T k).map (fun i : Nat => lg (fnAt T i).vec)
theorem useN_succ (T : List FS) (k : Nat) : useN T (k + 1) = useN T k ++ (if 0 < (fnAt T k).vec then [k] else []) := by
  unfold useN
  rw [range_filter_succ]
  congr 1
  by_cases h : 0 < (fnAt T k).vec <;> simp [h]
theorem useN_len (T : List FS) (k : Nat) : (useN T k).length ≤ k := by
  have := List.length_filter_le (fun i => decide (0 < (fnAt T i).vec)) (List.range k)
  simpa [useN] using this

/-- The vectors of all functions, from the places of those that have some. -/
def vecOut (n : Nat) (U : List Int) (bs : List Int) : List Int := (U.zip bs).foldl (fun o x => o.set x.1.toNat (IntKind.i64.wrap x.2)) (List.replicate n 0)
def vecV (T : List FS) : Int × List Int × Cert :=
  if ValidT T then
    (if (placeV [(32, 208)] (sF T T.length)).1 ≠ 0 then ((placeV [(32, 208)] (sF T T.length)).1, [], (placeV [(32, 208)] (sF T T.length)).2.2)
     else (0, vecOut T.length (uF T T.length) (placeV [(32, 208)] (sF T T.length)).2.1, noCert))
  else (1, [], noCert)

end Go.Proofs.Ytinhkngomojheaa
