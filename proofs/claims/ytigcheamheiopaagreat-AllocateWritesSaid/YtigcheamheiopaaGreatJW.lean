import Derived.Test.YtigcheamheiopaaGreatJB

section
/-
 AllocateWrites (plain): which writes a function gets; what a device's bytes are after them.
-/
namespace Go.Proofs.YtigcheamheiopaaGreat
open Go.Eng
set_option linter.unusedVariables false

/-! ### the writes of one function -/
theorem barL_fn {f : Fn} {x : Asg} : ∀ y ∈ barL f x, y.1 = x.1.1 := fun y hy => by
 unfold barL at hy
 rcases List.mem_cons.1 hy with h | h
 ·rw [h]
 ·split at h
  ·simp only [List.mem_singleton] at h; rw [h]
  ·cases h
theorem regsL_fn {f : Fn} {A : List Asg} {i : Nat} : ∀ k, ∀ y ∈ regsL f A i k, y.1 = i
 | 0, y, h => by simp [regsL] at h
 | k + 1, y, h => by
  simp only [regsL] at h
  rcases List.mem_append.1 h with h | h
  ·exact regsL_fn k y h
  ·split at h
   ·rename_i hc
    rw [barL_fn y h, hc.1]
   ·cases h
theorem winC_fn {p : Bool} {A : List Asg} {i : Int} {c : Nat} : ∀ y ∈ winC p A i c, y.1 = i := fun y hy => by
 unfold winC at hy
 split at hy
 ·simp at hy; rcases hy with rfl | rfl <;> rfl
 ·split at hy
  ·simp at hy; rcases hy with rfl | rfl <;> rfl
  ·split at hy
   ·simp at hy; rcases hy with rfl | rfl | rfl | rfl <;> rfl
   ·cases hy
theorem brL_fn {p : Bool} {A : List Asg} {i : Int} : ∀ k, ∀ y ∈ brL p A i k, y.1 = i
 | 0, y, h => by simp [brL] at h
 | k + 1, y, h => by
  simp only [brL] at h
  rcases List.mem_append.1 h with h | h
  ·exact brL_fn k y h
  ·exact winC_fn y h
theorem wrI_fn {T : List FS} {A : List Asg} {i : Nat} : ∀ y ∈ wrI T A i, y.1 = i := fun y hy => by
 unfold wrI at hy
 rw [List.mem_append, List.mem_append] at hy
 rcases hy with (h | h) | h
 ·exact regsL_fn _ y h
 ·split at h
  ·exact brL_fn 3 y h
  ·cases h
 ·simp only [List.mem_singleton] at h; rw [h]
theorem opsI_all {L : List Op} {i : Int} (h : ∀ y ∈ L, y.1 = i) : opsI L i = L := by
 unfold opsI
 rw [List.filter_eq_self]
 intro y hy
 simpa using h y hy
theorem opsI_none {L : List Op} {i : Int} (h : ∀ y ∈ L, y.1 ≠ i) : opsI L i = [] := by
 unfold opsI
 rw [List.filter_eq_nil_iff]
 intro y hy
 simpa using h y hy
theorem opsI_wrF {T : List FS} {A : List Asg} {i : Nat} : ∀ m, opsI (wrF T A m) i = if i < m then wrI T A i else []
 | 0 => by simp [wrF, opsI]
 | m + 1 => by
  have ih := opsI_wrF (T := T) (A := A) (i := i) m
  have e : opsI (wrF T A (m + 1)) i = opsI (wrF T A m) i ++ opsI (wrI T A m) i := by
   show List.filter _ (wrF T A m ++ wrI T A m) = _
   exact List.filter_append ..
  rw [e, ih]
  by_cases h : i = m
  ·subst h
   rw [if_neg (by omega), if_pos (by omega), List.nil_append]
   exact opsI_all wrI_fn
  ·rw [opsI_none (fun y hy => by rw [wrI_fn y hy]; omega), List.append_nil]
   by_cases h2 : i < m
   ·rw [if_pos h2, if_pos (by omega)]
   ·rw [if_neg h2, if_neg (by omega)]

/-! ### bytes after writes -/
def CovQ (x : Op) (q : Nat) : Prop := x.2.1.toNat ≤ q ∧ q < x.2.1.toNat + x.2.2.1.toNat
theorem write_out {ys ms : Nat → Int} {x : Op} {q : Nat} (h : ¬ CovQ x q) : writeF ys ms x.2.1 x.2.2.1 x.2.2.2 q = ys q := by
 unfold writeF
 split
 ·exact if_neg h
 ·rfl
theorem write_in {ys ms : Nat → Int} {x : Op} {q : Nat} (hf : Formed x.2.1 x.2.2.1) (h : CovQ x q) : writeF ys ms x.2.1 x.2.2.1 x.2.2.2 q = wrB (ys q) (ms q) (byteOf x.2.2.2 (q - x.2.1.toNat)) := by
 unfold writeF
 rw [if_pos hf]
 exact if_pos h
theorem app_out {ms : Nat → Int} {q : Nat} : ∀ (l : List Op) (ys : Nat → Int), (∀ x ∈ l, ¬ CovQ x q) → appL ms ys l q = ys q
 | [], ys, _ => rfl
 | x :: l, ys, h => by
  show appL ms (writeF ys ms x.2.1 x.2.2.1 x.2.2.2) l q = _
  rw [app_out l _ (fun y hy => h y (by simp [hy])), write_out (h x (by simp))]
theorem app_at {ms : Nat → Int} {q : Nat} {x : Op} {l1 l2 : List Op} (ys : Nat → Int) (h1 : ∀ y ∈ l1, ¬ CovQ y q) (h2 : ∀ y ∈ l2, ¬ CovQ y q) (hf : Formed x.2.1 x.2.2.1) (hc : CovQ x q) :
  appL ms ys (l1 ++ x :: l2) q = wrB (ys q) (ms q) (byteOf x.2.2.2 (q - x.2.1.toNat)) := by
 rw [appL_append]
 show appL ms (writeF (appL ms ys l1) ms x.2.1 x.2.2.1 x.2.2.2) l2 q = _
 rw [app_out l2 _ h2, write_in hf hc, app_out l1 ys h1]

/-! ### where the writes of a function lie -/
theorem barL_at {f : Fn} {x : Asg} {y : Op} (hy : y ∈ barL f x) : (y.2.1 = 16 + 4 * x.1.2.1 ∧ y.2.2.1 = 4 ∧ y.2.2.2 = bnd x.2 4294967295) ∨ ((kB f x.1.2.1 = 3 ∨ kB f x.1.2.1 = 4) ∧ y.2.1 = 20 + 4 * x.1.2.1 ∧ y.2.2.1 = 4 ∧ y.2.2.2 = sh x.2 32) := by
 unfold barL at hy
 rcases List.mem_cons.1 hy with h | h
 ·left; rw [h]; exact ⟨rfl, rfl, rfl⟩
 ·right
  split at h
  ·rename_i hk
   simp only [List.mem_singleton] at h
   rw [h]
   exact ⟨hk, rfl, rfl, rfl⟩
  ·cases h
theorem regsL_mem {f : Fn} {A : List Asg} {i : Nat} : ∀ k, ∀ y ∈ regsL f A i k, ∃ j, j < k ∧ (A.getD j zA).1.1 = i ∧ 0 ≤ (A.getD j zA).1.2.1 ∧ y ∈ barL f (A.getD j zA)
 | 0, y, h => by simp [regsL] at h
 | k + 1, y, h => by
  simp only [regsL] at h
  rcases List.mem_append.1 h with h | h
  ·obtain ⟨j, hj, h2⟩ := regsL_mem k y h
   exact ⟨j, by omega, h2⟩
  ·split at h
   ·rename_i hc
    exact ⟨k, by omega, hc.1, hc.2, h⟩
   ·cases h
theorem winC_at {p : Bool} {A : List Asg} {i : Int} {c : Nat} {y : Op} (hy : y ∈ winC p A i c) : 28 ≤ y.2.1 ∧ y.2.1 + y.2.2.1 ≤ 48 := by
 unfold winC at hy
 split at hy
 ·simp at hy; rcases hy with rfl | rfl <;> simp
 ·split at hy
  ·simp at hy; rcases hy with rfl | rfl <;> simp
  ·split at hy
   ·simp at hy; rcases hy with rfl | rfl | rfl | rfl <;> simp
   ·cases hy
theorem brL_at {p : Bool} {A : List Asg} {i : Int} : ∀ k, ∀ y ∈ brL p A i k, 28 ≤ y.2.1 ∧ y.2.1 + y.2.2.1 ≤ 48
 | 0, y, h => by simp [brL] at h
 | k + 1, y, h => by
  simp only [brL] at h
  rcases List.mem_append.1 h with h | h
  ·exact brL_at k y h
  ·exact winC_at h

/-! ### the command -/
theorem cmd_byte {v : Int} (hv : 0 ≤ v ∧ v < 8) {y0 : Int} (hy : 0 ≤ y0 ∧ y0 ≤ 255) : (wrB y0 7 (byteOf v 0)).toNat.testBit 0 = v.toNat.testBit 0 ∧ (wrB y0 7 (byteOf v 0)).toNat.testBit 1 = v.toNat.testBit 1 := by
 have hb := byteOf_range v 0
 have m0 : (7 : Int).toNat.testBit 0 = true := by decide
 have m1 : (7 : Int).toNat.testBit 1 = true := by decide
 constructor
 ·rw [wrB_bit hy (by omega) hb (by omega), if_pos m0, byteOf_bit hv.1]
  simp
 ·rw [wrB_bit hy (by omega) hb (by omega), if_pos m1, byteOf_bit hv.1]
  simp
theorem cmdF_small {A : List Asg} {i : Nat} : ∀ k, (cmdF A i k = 0 ∨ cmdF A i k = 1 ∨ cmdF A i k = 2 ∨ cmdF A i k = 3) ∧ ((∃ j, j < k ∧ (A.getD j zA).1.1 = i ∧ (A.getD j zA).1.2.2.1 = 0) ↔ (cmdF A i k = 1 ∨ cmdF A i k = 3)) ∧ ((∃ j, j < k ∧ (A.getD j zA).1.1 = i ∧ (A.getD j zA).1.2.2.1 ≠ 0) ↔ (cmdF A i k = 2 ∨ cmdF A i k = 3))
 | 0 => by
  refine ⟨.inl rfl, ⟨fun ⟨j, hj, _⟩ => by omega, fun h => by simp [cmdF] at h⟩, ⟨fun ⟨j, hj, _⟩ => by omega, fun h => by simp [cmdF] at h⟩⟩
 | k + 1 => by
  obtain ⟨h1, h2, h3⟩ := cmdF_small (A := A) (i := i) k
  have hex : ∀ P : Asg → Prop, (∃ j, j < k + 1 ∧ (A.getD j zA).1.1 = i ∧ P (A.getD j zA)) ↔ (∃ j, j < k ∧ (A.getD j zA).1.1 = i ∧ P (A.getD j zA)) ∨ ((A.getD k zA).1.1 = i ∧ P (A.getD k zA)) := fun P => by
   constructor
   ·rintro ⟨j, hj, h⟩
    by_cases e : j = k
    ·subst e; exact .inr h
    ·exact .inl ⟨j, by omega, h⟩
   ·rintro (⟨j, hj, h⟩ | h)
    ·exact ⟨j, by omega, h⟩
    ·exact ⟨k, by omega, h⟩
  rw [hex (fun x => x.1.2.2.1 = 0), hex (fun x => x.1.2.2.1 ≠ 0), h2, h3]
  have hs : cmdF A i (k + 1) = if (A.getD k zA).1.1 = i then bitsOr .u64 (cmdF A i k) (if (A.getD k zA).1.2.2.1 = 0 then 1 else 2) else cmdF A i k := rfl
  rw [hs]
  clear hs hex
  generalize A.getD k zA = x
  by_cases hi : x.1.1 = i
  ·rw [if_pos hi]
   by_cases hc : x.1.2.2.1 = 0
   ·rw [if_pos hc]
    have e0 : bitsOr .u64 0 1 = 1 := by decide
    have e1 : bitsOr .u64 1 1 = 1 := by decide
    have e2 : bitsOr .u64 2 1 = 3 := by decide
    have e3 : bitsOr .u64 3 1 = 3 := by decide
    rcases h1 with h | h | h | h <;> rw [h] <;> simp [e0, e1, e2, e3, hi, hc]
   ·rw [if_neg hc]
    have e0 : bitsOr .u64 0 2 = 2 := by decide
    have e1 : bitsOr .u64 1 2 = 3 := by decide
    have e2 : bitsOr .u64 2 2 = 2 := by decide
    have e3 : bitsOr .u64 3 2 = 3 := by decide
    rcases h1 with h | h | h | h <;> rw [h] <;> simp [e0, e1, e2, e3, hi, hc]
  ·rw [if_neg hi]
   exact ⟨h1, ⟨fun h => h.elim id (fun h => absurd h.1 hi), .inl⟩, ⟨fun h => h.elim id (fun h => absurd h.1 hi), .inl⟩⟩

end Go.Proofs.YtigcheamheiopaaGreat
end

section
/-
 AllocateWrites (plain): the assignments of one function; its windows are enabled.
-/
namespace Go.Proofs.YtigcheamheiopaaGreat
open Go.Eng
set_option linter.unusedVariables false

theorem needs_of {T : List FS} {high : Bool} {i : Nat} : ∀ m, m ≤ T.length → ((List.range m).flatMap (needsAt T high)).filter (fun x => decide (x.1 = (i : Int))) = if i < m then needsAt T high i else []
 | 0, _ => by simp
 | m + 1, hm => by
  have ih := needs_of (T := T) (high := high) (i := i) m (by omega)
  rw [List.range_succ, List.flatMap_append, List.filter_append, ih]
  have e : ([m].flatMap (needsAt T high)) = needsAt T high m := by simp
  rw [e]
  have hf := needsAt_fst (T := T) (high := high) (show m < T.length by omega)
  by_cases h : i = m
  ·subst h
   rw [if_neg (by omega), if_pos (by omega), List.nil_append, List.filter_eq_self]
   intro x hx
   simpa using hf x hx
  ·have e2 : (needsAt T high m).filter (fun x => decide (x.1 = (i : Int))) = [] := by
    rw [List.filter_eq_nil_iff]
    intro x hx
    have := hf x hx
    simp
    omega
   rw [e2, List.append_nil]
   by_cases h2 : i < m
   ·rw [if_pos h2, if_pos (by omega)]
   ·rw [if_neg h2, if_neg (by omega)]
theorem asg_of {T : List FS} {high : Bool} {A : List Asg} {i : Nat} (hi : i < T.length) (hA : A.map Prod.fst = needsAll T high) : (A.filter (fun x => decide (x.1.1 = (i : Int)))).map Prod.fst = needsAt T high i := by
 have h1 := needs_of (T := T) (high := high) (i := i) T.length (Nat.le_refl _)
 rw [if_pos hi] at h1
 have h2 : (needsAll T high).filter (fun x => decide (x.1 = (i : Int))) = needsAt T high i := h1
 rw [← h2, ← hA, List.filter_map]
 rfl

theorem cmd_at {T : List FS} {A : List Asg} {i : Nat} (ys ms : Nat → Int) : ∃ v : Int, (v = cmdF A i A.length ∨ v = bitsOr .u64 (cmdF A i A.length) 4) ∧ appL ms ys (wrI T A i) 4 = wrB (ys 4) (ms 4) (byteOf v 0) := by
 refine ⟨if (fnAt T i).bridge = true then bitsOr .u64 (cmdF A i A.length) 4 else cmdF A i A.length, by split <;> simp, ?_⟩
 have hf : Formed 4 2 := by unfold Formed; omega
 have := app_at (ms := ms) (q := 4) (x := ((i : Int), 4, 2, if (fnAt T i).bridge = true then bitsOr .u64 (cmdF A i A.length) 4 else cmdF A i A.length)) (l1 := regsL (fnAt T i) A i A.length ++ (if (fnAt T i).bridge = true then brL (fnAt T i).pref A i 3 else [])) (l2 := []) ys (fun y hy hc => ?_) (fun y hy => by cases hy) hf ⟨by simp, by simp⟩
 ·exact this
 ·unfold CovQ at hc
  rcases List.mem_append.1 hy with hy | hy
  ·obtain ⟨j, hj, _, h0, hb⟩ := regsL_mem _ y hy
   rcases barL_at hb with ⟨h1, _⟩ | ⟨_, h1, _⟩ <;> omega
  ·split at hy
   ·have := brL_at 3 y hy
    omega
   ·cases hy

theorem cmd_bits {A : List Asg} {i : Nat} {v : Int} (hv : v = cmdF A i A.length ∨ v = bitsOr .u64 (cmdF A i A.length) 4) {y0 : Int} (hy : 0 ≤ y0 ∧ y0 ≤ 255) :
  ((∃ j, j < A.length ∧ (A.getD j zA).1.1 = i ∧ (A.getD j zA).1.2.2.1 = 0) → (wrB y0 7 (byteOf v 0)).toNat.testBit 0 = true) ∧ ((∃ j, j < A.length ∧ (A.getD j zA).1.1 = i ∧ (A.getD j zA).1.2.2.1 ≠ 0) → (wrB y0 7 (byteOf v 0)).toNat.testBit 1 = true) := by
 obtain ⟨h1, h2, h3⟩ := cmdF_small (A := A) (i := i) A.length
 rw [h2, h3]
 generalize cmdF A i A.length = w at *
 have e0 : bitsOr .u64 0 4 = 4 := by decide
 have e1 : bitsOr .u64 1 4 = 5 := by decide
 have e2 : bitsOr .u64 2 4 = 6 := by decide
 have e3 : bitsOr .u64 3 4 = 7 := by decide
 have hr : 0 ≤ v ∧ v < 8 := by
  rcases h1 with h | h | h | h <;> subst h <;> rcases hv with h | h <;> subst h <;> simp [e0, e1, e2, e3]
 obtain ⟨b0, b1⟩ := cmd_byte hr hy
 rw [b0, b1]
 have t : ∀ u : Int, u = 0 ∨ u = 1 ∨ u = 2 ∨ u = 3 ∨ u = 4 ∨ u = 5 ∨ u = 6 ∨ u = 7 → True := fun _ _ => trivial
 constructor
 ·rintro (h | h) <;> subst h <;> rcases hv with h | h <;> subst h <;> first | decide | (rw [e1]; decide) | (rw [e3]; decide)
 ·rintro (h | h) <;> subst h <;> rcases hv with h | h <;> subst h <;> first | decide | (rw [e2]; decide) | (rw [e3]; decide)

theorem dev_en {T : List FS} {A : List Asg} {i : Nat} {x : Asg} (hx : x ∈ A) (hi : x.1.1 = i) {c : Int} (hc : c = 0 ↔ x.1.2.2.1 = 0) : enF (appL (sinit (fnAt T i)).2 (sinit (fnAt T i)).1 (wrI T A i)) c = true := by
 obtain ⟨v, hv, e⟩ := cmd_at (T := T) (A := A) (i := i) (sinit (fnAt T i)).1 (sinit (fnAt T i)).2
 have hb0 := sinit_bytes (fnAt T i) 4
 rw [sinit_cmd] at e
 obtain ⟨k0, k1⟩ := cmd_bits hv hb0
 have hr := wrB_range ((sinit (fnAt T i)).1 4) 7 (byteOf v 0)
 obtain ⟨a0, a1⟩ := and_bit hr
 obtain ⟨j, hj, hje⟩ := List.getElem_of_mem hx
 have hg : A.getD j zA = x := by simp [List.getD, hj, hje]
 unfold enF
 rw [e]
 by_cases h : c = 0
 ·rw [if_pos h, a0]
  exact k0 ⟨j, hj, by rw [hg]; exact hi, by rw [hg]; exact hc.1 h⟩
 ·rw [if_neg h, a1]
  exact k1 ⟨j, hj, by rw [hg]; exact hi, by rw [hg]; exact fun h0 => h (hc.2 h0)⟩

end Go.Proofs.YtigcheamheiopaaGreat
end

section
/-
 AllocateWrites (plain): bytes that several writes cover alike; a register's bytes.
-/
namespace Go.Proofs.YtigcheamheiopaaGreat
open Go.Eng
set_option linter.unusedVariables false

theorem byte_ext {a b : Int} (ha : 0 ≤ a ∧ a ≤ 255) (hb : 0 ≤ b ∧ b ≤ 255) (h : ∀ t, t < 8 → a.toNat.testBit t = b.toNat.testBit t) : a = b := by
 have : a.toNat = b.toNat := by
  apply Nat.eq_of_testBit_eq
  intro t
  by_cases ht : t < 8
  ·exact h t ht
  ·rw [byte_bit_hi ha (by omega), byte_bit_hi hb (by omega)]
 omega
theorem wrB_idem {y m b : Int} (hy : 0 ≤ y ∧ y ≤ 255) (hm : 0 ≤ m ∧ m ≤ 255) (hb : 0 ≤ b ∧ b ≤ 255) : wrB (wrB y m b) m b = wrB y m b := by
 have h1 := wrB_range y m b
 refine byte_ext (wrB_range _ _ _) h1 (fun t ht => ?_)
 rw [wrB_bit h1 hm hb ht, wrB_bit hy hm hb ht]
 split <;> rfl
theorem app_uni {ms : Nat → Int} {q : Nat} {bv : Int} (hm : 0 ≤ ms q ∧ ms q ≤ 255) (hb : 0 ≤ bv ∧ bv ≤ 255) : ∀ (l : List Op) (ys : Nat → Int), Bytes ys → (∀ y ∈ l, CovQ y q → Formed y.2.1 y.2.2.1 ∧ byteOf y.2.2.2 (q - y.2.1.toNat) = bv) → (∃ y ∈ l, CovQ y q) → appL ms ys l q = wrB (ys q) (ms q) bv
 | [], ys, _, _, ⟨y, hy, _⟩ => by cases hy
 | x :: l, ys, hys, hall, hex => by
  show appL ms (writeF ys ms x.2.1 x.2.2.1 x.2.2.2) l q = _
  have hys' := writeF_bytes (ms := ms) hys x.2.1 x.2.2.1 x.2.2.2
  by_cases hl : ∃ y ∈ l, CovQ y q
  ·rw [app_uni hm hb l _ hys' (fun y hy => hall y (by simp [hy])) hl]
   by_cases hc : CovQ x q
   ·obtain ⟨hf, hv⟩ := hall x (by simp) hc
    rw [write_in hf hc, hv, wrB_idem (hys q) hm hb]
   ·rw [write_out hc]
  ·rw [app_out l _ (fun y hy hc => hl ⟨y, hy, hc⟩)]
   have hc : CovQ x q := by
    obtain ⟨y, hy, hc⟩ := hex
    rcases List.mem_cons.1 hy with e | e
    ·rw [← e]; exact hc
    ·exact absurd ⟨y, e, hc⟩ hl
   obtain ⟨hf, hv⟩ := hall x (by simp) hc
   rw [write_in hf hc, hv]

theorem regsL_has {f : Fn} {A : List Asg} {i : Nat} {j : Nat} (h1 : (A.getD j zA).1.1 = i) (h2 : 0 ≤ (A.getD j zA).1.2.1) : ∀ k, j < k → ∀ y ∈ barL f (A.getD j zA), y ∈ regsL f A i k
 | 0, h, _, _ => by omega
 | k + 1, h, y, hy => by
  simp only [regsL]
  by_cases e : j = k
  ·subst e
   rw [if_pos ⟨h1, h2⟩]
   exact List.mem_append.2 (.inr hy)
  ·exact List.mem_append.2 (.inl (regsL_has h1 h2 k (by omega) y hy))

structure RegOk (f : Fn) (A : List Asg) (i : Nat) : Prop where
 bl : ∀ x ∈ A, x.1.1 = i → 0 ≤ x.1.2.1 → x.1.2.1 < f.bars.length ∧ kB f x.1.2.1 ≠ 0 ∧ ((kB f x.1.2.1 = 3 ∨ kB f x.1.2.1 = 4) → kB f (x.1.2.1 + 1) = 0) ∧ (f.bridge = true → 16 + 4 * x.1.2.1 + (if kB f x.1.2.1 = 3 ∨ kB f x.1.2.1 = 4 then 8 else 4) ≤ 24)
 un : ∀ x ∈ A, ∀ y ∈ A, x.1.1 = i → y.1.1 = i → x.1.2.1 = y.1.2.1 → x = y

theorem fm4 {o : Int} (h : 0 ≤ o ∧ o < 252 ∧ o % 4 = 0) : Formed o 4 := by unfold Formed; omega

theorem reg_low {T : List FS} {A : List Asg} {i : Nat} (ok : RegOk (fnAt T i) A i) (h6 : (fnAt T i).bars.length ≤ 6) {x : Asg} (hx : x ∈ A) (hi : x.1.1 = i) (h0 : 0 ≤ x.1.2.1) {ys ms : Nat → Int} (hys : Bytes ys) (hms : Bytes ms) {b : Nat} (hb : b < 4) :
  appL ms ys (wrI T A i) (16 + 4 * x.1.2.1.toNat + b) = wrB (ys (16 + 4 * x.1.2.1.toNat + b)) (ms (16 + 4 * x.1.2.1.toNat + b)) (byteOf (bnd x.2 4294967295) b) := by
 obtain ⟨hxl, hxk, hxn, hxb⟩ := ok.bl x hx hi h0
 refine app_uni (hms _) (byteOf_range _ _) _ _ hys (fun y hy hc => ?_) ?_
 ·unfold CovQ at hc
  unfold wrI at hy
  rw [List.mem_append, List.mem_append] at hy
  rcases hy with (hy | hy) | hy
  ·obtain ⟨j, hj, g1, g2, hyb⟩ := regsL_mem _ y hy
   have hz := getD_mem' (l := A) (k := j) zA hj
   obtain ⟨hzl, hzk, hzn, hzb⟩ := ok.bl _ hz g1 g2
   have hun := ok.un _ hz x hx g1 hi
   generalize A.getD j zA = z at *
   rcases barL_at hyb with ⟨k1, k2, k3⟩ | ⟨kk, k1, k2, k3⟩
   ·rw [k1, k2] at hc
    have : z.1.2.1 = x.1.2.1 := by omega
    have := hun this
    subst this
    rw [k1, k2, k3]
    refine ⟨fm4 (by omega), ?_⟩
    congr 1
    omega
   ·exfalso
    rw [k1, k2] at hc
    have : z.1.2.1 + 1 = x.1.2.1 := by omega
    rw [← this] at hxk
    exact hxk (hzn kk)
  ·split at hy
   ·rename_i hbr
    have h1 := brL_at 3 y hy
    have h2 := hxb hbr
    exfalso
    split at h2 <;> omega
   ·cases hy
  ·simp only [List.mem_singleton] at hy
   subst hy
   simp at hc
   omega
 ·obtain ⟨j, hj, hje⟩ := List.getElem_of_mem hx
  have hg : A.getD j zA = x := by simp [List.getD, hj, hje]
  refine ⟨(x.1.1, 16 + 4 * x.1.2.1, 4, bnd x.2 4294967295), ?_, ?_⟩
  ·unfold wrI
   rw [List.mem_append, List.mem_append]
   refine .inl (.inl (regsL_has (j := j) (by rw [hg]; exact hi) (by rw [hg]; exact h0) A.length hj _ ?_))
   rw [hg]
   unfold barL
   exact List.mem_cons_self ..
  ·unfold CovQ
   dsimp only
   omega

end Go.Proofs.YtigcheamheiopaaGreat
end

section
/-
 AllocateWrites (plain): a register reads back its base.
-/
namespace Go.Proofs.YtigcheamheiopaaGreat
open Go.Eng
set_option linter.unusedVariables false

theorem reg_high {T : List FS} {A : List Asg} {i : Nat} (ok : RegOk (fnAt T i) A i) (h6 : (fnAt T i).bars.length ≤ 6) {x : Asg} (hx : x ∈ A) (hi : x.1.1 = i) (h0 : 0 ≤ x.1.2.1) (kx : kB (fnAt T i) x.1.2.1 = 3 ∨ kB (fnAt T i) x.1.2.1 = 4) {ys ms : Nat → Int} (hys : Bytes ys) (hms : Bytes ms) {b : Nat} (hb : b < 4) :
  appL ms ys (wrI T A i) (20 + 4 * x.1.2.1.toNat + b) = wrB (ys (20 + 4 * x.1.2.1.toNat + b)) (ms (20 + 4 * x.1.2.1.toNat + b)) (byteOf (sh x.2 32) b) := by
 obtain ⟨hxl, hxk, hxn, hxb⟩ := ok.bl x hx hi h0
 have hnone := hxn kx
 refine app_uni (hms _) (byteOf_range _ _) _ _ hys (fun y hy hc => ?_) ?_
 ·unfold CovQ at hc
  unfold wrI at hy
  rw [List.mem_append, List.mem_append] at hy
  rcases hy with (hy | hy) | hy
  ·obtain ⟨j, hj, g1, g2, hyb⟩ := regsL_mem _ y hy
   have hz := getD_mem' (l := A) (k := j) zA hj
   obtain ⟨hzl, hzk, hzn, hzb⟩ := ok.bl _ hz g1 g2
   have hun := ok.un _ hz x hx g1 hi
   generalize A.getD j zA = z at *
   rcases barL_at hyb with ⟨k1, k2, k3⟩ | ⟨kk, k1, k2, k3⟩
   ·exfalso
    rw [k1, k2] at hc
    have : z.1.2.1 = x.1.2.1 + 1 := by omega
    rw [this] at hzk
    exact hzk hnone
   ·rw [k1, k2] at hc
    have : z.1.2.1 = x.1.2.1 := by omega
    have := hun this
    subst this
    rw [k1, k2, k3]
    refine ⟨fm4 (by omega), ?_⟩
    congr 1
    omega
  ·split at hy
   ·rename_i hbr
    have h1 := brL_at 3 y hy
    have h2 := hxb hbr
    rw [if_pos kx] at h2
    exfalso
    omega
   ·cases hy
  ·simp only [List.mem_singleton] at hy
   subst hy
   simp at hc
   omega
 ·obtain ⟨j, hj, hje⟩ := List.getElem_of_mem hx
  have hg : A.getD j zA = x := by simp [List.getD, hj, hje]
  refine ⟨(x.1.1, 20 + 4 * x.1.2.1, 4, sh x.2 32), ?_, ?_⟩
  ·unfold wrI
   rw [List.mem_append, List.mem_append]
   refine .inl (.inl (regsL_has (j := j) (by rw [hg]; exact hi) (by rw [hg]; exact h0) A.length hj _ ?_))
   rw [hg]
   unfold barL
   rw [if_pos kx]
   simp
  ·unfold CovQ
   dsimp only
   omega

theorem reg_base {T : List FS} {A : List Asg} {i : Nat} (ok : RegOk (fnAt T i) A i) (h6 : (fnAt T i).bars.length ≤ 6) {x : Asg} (hx : x ∈ A) (hi : x.1.1 = i) (h0 : 0 ≤ x.1.2.1) {ys ms : Nat → Int} (hys : Bytes ys) (hms : Bytes ms) {z : Int} {w : Nat} (hw : w = if kB (fnAt T i) x.1.2.1 = 3 ∨ kB (fnAt T i) x.1.2.1 = 4 then 8 else 4) (hz : 0 ≤ z ∧ z ≤ 63) (hb : 0 ≤ x.2 ∧ x.2 < 2 ^ (8 * w)) (hd : (2 ^ z.toNat : Nat) ∣ x.2.toNat)
  (hm : ∀ j, j < w → ms (16 + 4 * x.1.2.1.toNat + j) = byteOf (kept z) j) : winB (numB (appL ms ys (wrI T A i)) (16 + 4 * x.1.2.1.toNat) w) z = x.2 := by
 have hw48 : w = 4 ∨ w = 8 := by rw [hw]; split <;> simp
 have hlow : bnd x.2 4294967295 = ((x.2.toNat % 4294967296 : Nat) : Int) := by
  have h := and_low (n := x.2.toNat) (by
   have : x.2 < 18446744073709551616 := by
    rcases hw48 with e | e <;> rw [e] at hb <;> simp at hb <;> omega
   omega)
  rw [show ((x.2.toNat : Nat) : Int) = x.2 by omega] at h
  exact h
 refine reg_back hys (appL_bytes ms _ ys hys) hw48 hz hb hd hm (fun j hj => ?_)
 by_cases hj4 : j < 4
 ·rw [reg_low ok h6 hx hi h0 hys hms hj4, hlow, byteOf_low hj4, show ((x.2.toNat : Nat) : Int) = x.2 by omega]
 ·have kx : kB (fnAt T i) x.1.2.1 = 3 ∨ kB (fnAt T i) x.1.2.1 = 4 := by
   apply Classical.byContradiction
   intro hn
   rw [if_neg hn] at hw
   omega
  rw [if_pos kx] at hw
  have := reg_high ok h6 hx hi h0 kx hys hms (b := j - 4) (by omega)
  rw [show 20 + 4 * x.1.2.1.toNat + (j - 4) = 16 + 4 * x.1.2.1.toNat + j by omega] at this
  rw [this]
  have h2 := byteOf_high (n := x.2.toNat) (j := j - 4) (by omega)
  rw [show ((x.2.toNat : Nat) : Int) = x.2 by omega, show 4 + (j - 4) = j by omega] at h2
  have e : sh x.2 32 = x.2.fdiv (2 ^ 32) := rfl
  rw [e, h2]

end Go.Proofs.YtigcheamheiopaaGreat
end

section
/-
 AllocateWrites (plain): the registers that have needs.
-/
namespace Go.Proofs.YtigcheamheiopaaGreat
open Go.Eng
set_option linter.unusedVariables false

def kapN (x : Need) : Int := x.1 * 1000 + (if 0 ≤ x.2.1 then x.2.1 else 100 - x.2.1)
def kapA (x : Asg) : Int := kapN x.1

theorem regL_kap (T : List FS) (high : Bool) (i : Nat) (B : List Bar) : ∀ n, (regL T high i B n).Pairwise (fun a b => kapN a < kapN b) ∧ ∀ x ∈ regL T high i B n, x.1 = i ∧ 0 ≤ x.2.1 ∧ x.2.1 < n
 | 0 => ⟨List.Pairwise.nil, fun x hx => by simp [regL] at hx⟩
 | n + 1 => by
  obtain ⟨h1, h2⟩ := regL_kap T high i B n
  simp only [regL]
  split
  ·rw [List.append_nil]
   exact ⟨h1, fun x hx => by have := h2 x hx; omega⟩
  ·refine ⟨List.pairwise_append.2 ⟨h1, List.pairwise_singleton _ _, fun a ha b hb => ?_⟩, fun x hx => ?_⟩
   ·simp only [List.mem_singleton] at hb
    subst hb
    have := h2 a ha
    unfold kapN
    dsimp only
    rw [if_pos (by omega), if_pos (by omega)]
    omega
   ·rcases List.mem_append.1 hx with hx | hx
    ·have := h2 x hx; omega
    ·simp only [List.mem_singleton] at hx; subst hx; dsimp only; omega
theorem winN_kap (T : List FS) (high : Bool) (i : Nat) (S : Nat → List Int) : ∀ n : Nat, (winN T high i S n).Pairwise (fun a b => kapN a < kapN b) ∧ ∀ x ∈ winN T high i S n, x.1 = i ∧ x.2.1 < 0 ∧ -(n : Int) ≤ x.2.1
 | 0 => ⟨List.Pairwise.nil, fun x hx => by simp [winN] at hx⟩
 | n + 1 => by
  obtain ⟨h1, h2⟩ := winN_kap T high i S n
  simp only [winN]
  split
  ·refine ⟨List.pairwise_append.2 ⟨h1, List.pairwise_singleton _ _, fun a ha b hb => ?_⟩, fun x hx => ?_⟩
   ·simp only [List.mem_singleton] at hb
    subst hb
    have := h2 a ha
    unfold kapN
    dsimp only
    rw [if_neg (by omega), if_neg (by omega)]
    omega
   ·rcases List.mem_append.1 hx with hx | hx
    ·have := h2 x hx; omega
    ·simp only [List.mem_singleton] at hx; subst hx; dsimp only; omega
  ·rw [List.append_nil]
   exact ⟨h1, fun x hx => by have := h2 x hx; omega⟩

theorem needsAt_kap {T : List FS} {high : Bool} (hv : ValidT T) {i : Nat} (hi : i < T.length) : (needsAt T high i).Pairwise (fun a b => kapN a < kapN b) ∧ ∀ x ∈ needsAt T high i, x.1 = i ∧ -3 ≤ x.2.1 ∧ x.2.1 < 6 := by
 rw [needsAt_own' hi]
 have hbl := (hv.2 i hi).va.bl
 have hr : regs (fnAt T i).bridge ≤ 6 := by unfold regs; split <;> omega
 obtain ⟨r1, r2⟩ := regL_kap T high i (fnAt T i).bars (fnAt T i).bars.length
 unfold ownL winAll
 have w : (if (fnAt T i).bridge then winN T high i (fun c => if c < 3 then (nB T high (T.length - 1 - i)).2 (i * 3 + c) else []) 3 else []).Pairwise (fun a b => kapN a < kapN b) ∧ ∀ x ∈ (if (fnAt T i).bridge then winN T high i (fun c => if c < 3 then (nB T high (T.length - 1 - i)).2 (i * 3 + c) else []) 3 else []), x.1 = i ∧ x.2.1 < 0 ∧ -3 ≤ x.2.1 := by
  split
  ·exact winN_kap T high i _ 3
  ·exact ⟨List.Pairwise.nil, fun x hx => by cases hx⟩
 obtain ⟨w1, w2⟩ := w
 refine ⟨List.pairwise_append.2 ⟨r1, w1, fun a ha b hb => ?_⟩, fun x hx => ?_⟩
 ·have h1 := r2 a ha
  have h2 := w2 b hb
  unfold kapN
  rw [if_pos (by omega), if_neg (by omega)]
  omega
 ·rcases List.mem_append.1 hx with hx | hx
  ·have := r2 x hx; omega
  ·have := w2 x hx; omega
theorem kapN_rng {x : Need} {i : Int} (h : x.1 = i ∧ -3 ≤ x.2.1 ∧ x.2.1 < 6) : i * 1000 ≤ kapN x ∧ kapN x < i * 1000 + 200 := by
 unfold kapN
 split <;> omega
theorem needs_kap {T : List FS} {high : Bool} (hv : ValidT T) : (needsAll T high).Pairwise (fun a b => kapN a < kapN b) := by
 unfold needsAll
 rw [List.pairwise_flatMap]
 refine ⟨fun i hi => (needsAt_kap hv (List.mem_range.1 hi)).1, ?_⟩
 have key : ∀ n, n ≤ T.length → (List.range n).Pairwise (fun a b => ∀ x ∈ needsAt T high a, ∀ y ∈ needsAt T high b, kapN x < kapN y) := by
  intro n hn
  rw [List.pairwise_iff_getElem]
  intro a b ha hb hab x hx y hy
  have ha' : a < n := by simpa using ha
  have hb' : b < n := by simpa using hb
  rw [List.getElem_range] at hx hy
  have h1 := kapN_rng ((needsAt_kap hv (show a < T.length by omega)).2 x hx)
  have h2 := kapN_rng ((needsAt_kap hv (show b < T.length by omega)).2 y hy)
  omega
 exact key _ (Nat.le_refl _)

theorem kap_uni {l : List Asg} (h : l.Pairwise (fun a b => kapA a < kapA b)) {x y : Asg} (hx : x ∈ l) (hy : y ∈ l) (h1 : x.1.1 = y.1.1) (h2 : x.1.2.1 = y.1.2.1) : x = y := by
 obtain ⟨i, hi, rfl⟩ := List.getElem_of_mem hx
 obtain ⟨j, hj, rfl⟩ := List.getElem_of_mem hy
 rw [List.pairwise_iff_getElem] at h
 have hk : kapA l[i] = kapA l[j] := by unfold kapA kapN; rw [h1, h2]
 rcases Nat.lt_trichotomy i j with h' | h' | h'
 ·have := h i j hi hj h'; omega
 ·subst h'; rfl
 ·have := h j i hj hi h'; omega

theorem regL_of (T : List FS) (high : Bool) (i : Nat) (B : List Bar) : ∀ n, ∀ x ∈ regL T high i B n, ∃ j : Nat, j < n ∧ bk B j ≠ 0 ∧ x = ((i : Int), (j : Int), classF T high i (bk B j), bz B j)
 | 0, x, hx => by simp [regL] at hx
 | n + 1, x, hx => by
  simp only [regL] at hx
  rcases List.mem_append.1 hx with hx | hx
  ·obtain ⟨j, hj, h⟩ := regL_of T high i B n x hx
   exact ⟨j, by omega, h⟩
  ·split at hx
   ·cases hx
   ·rename_i hk
    simp only [List.mem_singleton] at hx
    exact ⟨n, by omega, hk, hx⟩
theorem need_reg {T : List FS} {high : Bool} {i : Nat} (hi : i < T.length) {x : Need} (hx : x ∈ needsAll T high) (hf : x.1 = i) (h0 : 0 ≤ x.2.1) : ∃ j : Nat, j < (fnAt T i).bars.length ∧ bk (fnAt T i).bars j ≠ 0 ∧ x = ((i : Int), (j : Int), classF T high i (bk (fnAt T i).bars j), bz (fnAt T i).bars j) := by
 have h1 := needs_of (T := T) (high := high) (i := i) T.length (Nat.le_refl _)
 rw [if_pos hi] at h1
 have hm : x ∈ needsAt T high i := by
  rw [← h1]
  exact List.mem_filter.2 ⟨hx, by simpa using hf⟩
 rw [needsAt_own' hi] at hm
 unfold ownL winAll at hm
 rcases List.mem_append.1 hm with hm | hm
 ·exact regL_of T high i _ _ x hm
 ·exfalso
  split at hm
  ·have := winN_ix T high i _ 3 x hm; omega
  ·cases hm
theorem reg_ok {T : List FS} {high : Bool} {A : List Asg} {i : Nat} (hv : ValidT T) (hi : i < T.length) (hA : A.map Prod.fst = needsAll T high) : RegOk (fnAt T i) A i := by
 have hF := (hv.2 i hi).va
 refine ⟨fun x hx hf h0 => ?_, fun x hx y hy h1 h2 h3 => ?_⟩
 ·have hm : x.1 ∈ needsAll T high := by rw [← hA]; exact List.mem_map.2 ⟨x, hx, rfl⟩
  obtain ⟨j, hj, hk, e⟩ := need_reg hi hm hf h0
  have ej : x.1.2.1 = j := by rw [e]
  have hba := hF.ba j hj
  have hbl := hF.bl
  have k1 : kB (fnAt T i) x.1.2.1 = bk (fnAt T i).bars j := by unfold kB bk; rw [ej, Int.toNat_natCast]
  have k2 : kB (fnAt T i) (x.1.2.1 + 1) = bk (fnAt T i).bars (j + 1) := by unfold kB bk; rw [ej, show ((j : Int) + 1).toNat = j + 1 by omega]
  rw [k1, k2, ej]
  unfold BarOk at hba
  refine ⟨by omega, hk, fun h => by omega, fun hb => ?_⟩
  rw [hb] at hbl
  have hr : regs true = 2 := rfl
  rw [hr] at hbl
  split <;> omega
 ·have hp : A.Pairwise (fun a b => kapA a < kapA b) := by
   have h := needs_kap (high := high) hv
   rw [← hA, List.pairwise_map] at h
   exact h
  exact kap_uni hp hx hy (by rw [h1, h2]) h3

end Go.Proofs.YtigcheamheiopaaGreat
end

section
/-
 AllocateWrites (plain): the masks are bytes; what is asked of the bases.
-/
namespace Go.Proofs.YtigcheamheiopaaGreat
open Go.Eng
set_option linter.unusedVariables false

theorem sdef_mb {s : d_St} (h : Bytes s.2) (o w : Nat) (v m : Int) : Bytes (sdef s o w v m).2 := setB_bytes h _ _ _
theorem sbar_mb {s : d_St} (h : Bytes s.2) (o : Nat) (k z : Int) : Bytes (sbar s o k z).2 := by
 unfold sbar
 repeat' split
 all_goals first | exact sdef_mb h _ _ _ _ | exact h
theorem sbars_mb {s : d_St} (h : Bytes s.2) (B : List Bar) : ∀ n, Bytes (sbars s B n).2
 | 0 => h
 | n + 1 => sbar_mb (sbars_mb h B n) _ _ _
theorem sbase_mb (f : Fn) : Bytes (sbase f).2 := by
 unfold sbase
 exact sdef_mb (sdef_mb (sdef_mb (sdef_mb (sdef_mb (fun _ => by dsimp only; omega) _ _ _ _) _ _ _ _) _ _ _ _) _ _ _ _) _ _ _ _
theorem sbr_mb {s : d_St} (h : Bytes s.2) : Bytes (sbr s).2 := sdef_mb (sdef_mb (sdef_mb (sdef_mb h _ _ _ _) _ _ _ _) _ _ _ _) _ _ _ _
theorem spf_mb {s : d_St} (h : Bytes s.2) : Bytes (spf s).2 := sdef_mb (sdef_mb h _ _ _ _) _ _ _ _
theorem sinit_mb (f : Fn) : Bytes (sinit f).2 := by
 have hb := sbars_mb (sbase_mb f) f.bars (regs f.bridge)
 unfold sinit sbridge
 repeat' split
 ·exact spf_mb (sbr_mb hb)
 ·exact sbr_mb hb
 ·exact hb

structure BsOk (A : List Asg) : Prop where
 lo : ∀ x ∈ A, 0 ≤ x.2
 al : ∀ x ∈ A, (2 ^ szA x : Nat) ∣ x.2.toNat
 io : ∀ x ∈ A, x.1.2.2.1 = 0 → x.2 + 2 ^ szA x ≤ 65536
 mem : ∀ x ∈ A, x.1.2.2.1 = 1 → x.2 + 2 ^ szA x ≤ 4294967296
 hi : ∀ x ∈ A, x.2 + 2 ^ szA x ≤ 4503599627370496

theorem reg_win {T : List FS} {high : Bool} {A : List Asg} {i : Nat} (hv : ValidT T) (hi : i < T.length) (hA : A.map Prod.fst = needsAll T high) (bs : BsOk A) {x : Asg} (hx : x ∈ A) (hf : x.1.1 = i) (h0 : 0 ≤ x.1.2.1)
  (hcl : x.1.2.2.1 = 0 ↔ bk (fnAt T i).bars x.1.2.1.toNat = 1) (hm32 : bk (fnAt T i).bars x.1.2.1.toNat = 2 → x.1.2.2.1 = 1) (hsz : x.1.2.2.2 = bz (fnAt T i).bars x.1.2.1.toNat) :
  winOf (appL (sinit (fnAt T i)).2 (sinit (fnAt T i)).1 (wrI T A i)) (fnAt T i).bars x.1.2.1.toNat = (x.1.2.1, wcl (bk (fnAt T i).bars x.1.2.1.toNat), x.2, winL (bz (fnAt T i).bars x.1.2.1.toNat), true) := by
 have hF := (hv.2 i hi).va
 have ok := reg_ok hv hi hA
 obtain ⟨hl, hk, _, _⟩ := ok.bl x hx hf h0
 have hk' : bk (fnAt T i).bars x.1.2.1.toNat ≠ 0 := hk
 have hlt : x.1.2.1.toNat < (fnAt T i).bars.length := by omega
 have hba := hF.ba _ hlt
 have h6 : (fnAt T i).bars.length ≤ 6 := by
  have := hF.bl
  have := regs_le (fnAt T i).bridge
  omega
 have hkB : kB (fnAt T i) x.1.2.1 = bk (fnAt T i).bars x.1.2.1.toNat := rfl
 unfold BarOk at hba
 have hw : wwd (bk (fnAt T i).bars x.1.2.1.toNat) = if kB (fnAt T i) x.1.2.1 = 3 ∨ kB (fnAt T i) x.1.2.1 = 4 then 8 else 4 := rfl
 have hzz : 0 ≤ bz (fnAt T i).bars x.1.2.1.toNat ∧ bz (fnAt T i).bars x.1.2.1.toNat ≤ 63 := by omega
 have p2 := pow_pos2 (szA x)
 have hb : 0 ≤ x.2 ∧ x.2 < 2 ^ (8 * wwd (bk (fnAt T i).bars x.1.2.1.toNat)) := by
  refine ⟨bs.lo x hx, ?_⟩
  have h1 := bs.hi x hx
  have h2 := bs.io x hx
  have h3 := bs.mem x hx
  unfold wwd
  split
  ·simp; omega
  ·rename_i hn
   simp
   by_cases h1' : bk (fnAt T i).bars x.1.2.1.toNat = 1
   ·have := h2 (hcl.2 h1'); omega
   ·have := h3 (hm32 (by omega)); omega
 have hbase := reg_base ok h6 hx hf h0 (sinit_bytes (fnAt T i)) (sinit_mb (fnAt T i)) (z := bz (fnAt T i).bars x.1.2.1.toNat) hw hzz hb (by have := bs.al x hx; unfold szA at this; rw [hsz] at this; exact this) (fun j hj => sinit_at hF hlt hk' hj)
 unfold winOf
 rw [hbase, dev_en hx hf (c := wcl (bk (fnAt T i).bars x.1.2.1.toNat)) (by
  rw [hcl]
  unfold wcl
  constructor
  ·intro h
   split at h
   ·assumption
   ·split at h <;> cases h
  ·intro h
   rw [if_pos h])]
 rw [show ((x.1.2.1.toNat : Nat) : Int) = x.1.2.1 by omega]

end Go.Proofs.YtigcheamheiopaaGreat
end

section
/-
 AllocateWrites (plain): the registers' windows, as a list.
-/
namespace Go.Proofs.YtigcheamheiopaaGreat
open Go.Eng
set_option linter.unusedVariables false

def rowF (x : Asg) : WR := (x.1.2.1, 0, x.2, 2 ^ szA x, false)
theorem gotF_append (L M : List WR) : gotF (L ++ M) = gotF L ++ gotF M := by unfold gotF; rw [List.filter_append, List.map_append]
theorem regs_got {T : List FS} {high : Bool} {A : List Asg} {i : Nat} (hv : ValidT T) (hi : i < T.length) (hA : A.map Prod.fst = needsAll T high) (bs : BsOk A) : ∀ n, n ≤ (fnAt T i).bars.length → ∀ R : List Asg, (∀ x ∈ R, x ∈ A) → R.map Prod.fst = regL T high i (fnAt T i).bars n →
  gotF (winsF (appL (sinit (fnAt T i)).2 (sinit (fnAt T i)).1 (wrI T A i)) (fnAt T i).bars n) = R.map rowF
 | 0, _, R, _, hR => by
  have : R = [] := List.map_eq_nil_iff.1 hR
  subst this
  rfl
 | n + 1, hn, R, hs, hR => by
  simp only [regL] at hR
  simp only [winsF]
  by_cases hk : bk (fnAt T i).bars n = 0
  ·rw [if_pos hk, List.append_nil] at hR
   rw [if_pos hk, List.append_nil]
   exact regs_got hv hi hA bs n (by omega) R hs hR
  ·rw [if_neg hk] at hR
   rw [if_neg hk, gotF_append]
   obtain ⟨R1, R2, rfl, h1, h2⟩ := List.map_eq_append_iff.1 hR
   obtain ⟨x, rfl, hx⟩ := List.map_eq_singleton_iff.1 h2
   rw [regs_got hv hi hA bs n (by omega) R1 (fun y hy => hs y (by simp [hy])) h1, List.map_append]
   congr 1
   have hxA := hs x (by simp)
   have e0 : x.1.1 = i := by rw [hx]
   have e1 : x.1.2.1 = n := by rw [hx]
   have e2 : x.1.2.2.1 = classF T high i (bk (fnAt T i).bars n) := by rw [hx]
   have e3 : x.1.2.2.2 = bz (fnAt T i).bars n := by rw [hx]
   have en : x.1.2.1.toNat = n := by omega
   have hba := (hv.2 i hi).va.ba n (by omega)
   unfold BarOk at hba
   have hw := reg_win hv hi hA bs hxA e0 (by omega) (by
    rw [en, e2]
    unfold classF
    constructor
    ·intro h
     split at h
     ·assumption
     ·split at h <;> cases h
    ·intro h
     rw [if_pos h]) (by
    rw [en, e2]
    intro h
    unfold classF
    rw [if_neg (by omega), if_neg (by omega)]) (by rw [en]; exact e3)
   rw [en] at hw
   rw [hw]
   have hl : winL (bz (fnAt T i).bars n) = 2 ^ szA x := by
    unfold winL szA
    rw [e3]
    exact shl1' (by omega) (by omega)
   unfold gotF rowF
   rw [hl]
   simp

end Go.Proofs.YtigcheamheiopaaGreat
end
