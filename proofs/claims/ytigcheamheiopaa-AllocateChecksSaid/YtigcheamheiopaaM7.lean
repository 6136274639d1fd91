/-
  The contract of the reference's Assign.
-/
import Derived.Test.YtigcheamheiopaaM6
namespace Go.Proofs.Ytigcheamheiopaa
open Go.Eng
set_option linter.unusedVariables false

theorem regL_size {T : List FS} {high : Bool} {i : Nat} {B : List Bar} (hB : ∀ j, j < B.length → BarOk B j) : ∀ n, n ≤ B.length → ∀ x ∈ regL T high i B n, 0 ≤ x.2.2.2
  | 0, _, x, h => by simp [regL] at h
  | n + 1, hn, x, h => by
    simp only [regL, List.mem_append] at h
    rcases h with h | h
    · exact regL_size hB n (by omega) x h
    · split at h
      · simp at h
      · simp only [List.mem_singleton] at h
        subst h
        have := hB n (by omega)
        unfold BarOk at this
        show 0 ≤ bz B n
        omega
theorem winN_size (T : List FS) (high : Bool) (i : Nat) (S : Nat → List Int) : ∀ n, ∀ x ∈ winN T high i S n, 0 ≤ x.2.2.2
  | 0, x, h => by simp [winN] at h
  | n + 1, x, h => by
    simp only [winN, List.mem_append] at h
    rcases h with h | h
    · exact winN_size T high i S n x h
    · split at h
      · simp only [List.mem_singleton] at h
        subst h
        show 0 ≤ wszF _ _ _
        unfold wszF
        split <;> omega
      · simp at h

/-- What holds of each need. -/
structure NdOk (T : List FS) (x : Need) : Prop where
  fn : 0 ≤ x.1 ∧ x.1 < T.length
  cl : 0 ≤ x.2.2.1 ∧ x.2.2.1 < 3
  sz : 0 ≤ x.2.2.2 ∧ x.2.2.2 ≤ 44
theorem needs_ok {T : List FS} {high : Bool} (hv : ValidT T) (ho : ¬ Ovf T high) : ∀ x ∈ needsAll T high, NdOk T x := by
  intro x hx
  obtain ⟨i, hi, hxi⟩ := List.mem_flatMap.1 hx
  have hi' : i < T.length := List.mem_range.1 hi
  have hle : ¬ (x.2.2.2 > largestF x.2.2.1) := fun hgt => ho ⟨i, hi', x, hxi, hgt⟩
  have hL : largestF x.2.2.1 ≤ 44 := by unfold largestF; split <;> (try split) <;> omega
  have hf := needsAt_fst hi' x hxi
  rw [needsAt_own' hi'] at hxi
  have hc := ownL_cl _ _ _ _ x hxi
  refine ⟨by omega, hc, ?_, by omega⟩
  simp only [ownL, List.mem_append] at hxi
  rcases hxi with h | h
  · exact regL_size (hv.2 i hi').va.ba _ (Nat.le_refl _) x h
  · unfold winAll at h
    split at h
    · exact winN_size _ _ _ _ 3 x h
    · cases h

theorem plI_bnd (S : List Int) : ∀ (ord : List Nat) (l : List Rg) (bs : List Int) (x : List Rg × List Int), plI S ord l bs = some x → Asc l → (∀ r ∈ l, RgOk r) → (∀ b ∈ bs, 0 ≤ b ∧ b ≤ 4503599627370496) → ∀ b ∈ x.2, 0 ≤ b ∧ b ≤ 4503599627370496
  | [], l, bs, x, h, _, _, hb => by simp [plI] at h; rw [← h]; exact hb
  | i :: ord, l, bs, x, h, ha, hr, hb => by
    simp only [plI] at h
    cases ht : takeF l (2 ^ szOf S i) with
    | none => rw [ht] at h; cases h
    | some y =>
      obtain ⟨b, l'⟩ := y
      rw [ht] at h
      have hP := pow_pos2 (szOf S i)
      obtain ⟨r, hrm, h1, h2, h3, h4⟩ := takeF_some ht hP
      have hx : 1 ≤ ((b, (2 : Int) ^ szOf S i) : Rg).2 := pow_ge1 _
      have hro := hr r hrm
      unfold RgOk at hro
      obtain ⟨r1, _, r3⟩ := rmF_spec ha hx
      refine plI_bnd S ord l' (bs.set i b) x h (by rw [h4]; exact r1) (fun q hq => ?_) (fun c hc => ?_)
      · rw [h4] at hq
        obtain ⟨f, hf, g1, g2⟩ := r3 q hq
        have := hr f hf
        have := Asc.len r1 q hq
        unfold RgOk at *
        omega
      · rcases List.mem_or_eq_of_mem_set hc with hc | rfl
        · exact hb c hc
        · omega
def Bnd (B : List Int) : Prop := ∀ b ∈ B, 0 ≤ b ∧ b ≤ 4503599627370496
theorem placeV_bnd (free : List Rg) (S : List Int) : Bnd (placeV free S).2.1 := by
  unfold placeV
  split
  · rename_i h
    cases hp : plI S (ordF S) (mergeF free) (List.replicate S.length 0) with
    | none => intro b hb; cases hb
    | some x =>
      obtain ⟨vm, am⟩ := h.1.merge
      exact plI_bnd S _ _ _ _ hp am vm.2 (fun b hb => by have := (List.mem_replicate.1 hb).2; omega)
  · intro b hb; cases hb
theorem setB_bnd {N : List Need} : ∀ (l : List (Need × Int)) (B : List Int), Bnd B → Bnd (l.map Prod.snd) → Bnd (setB N B l)
  | [], B, h, _ => h
  | x :: l, B, h, hl => by
    refine setB_bnd l _ (fun b hb => ?_) (fun b hb => hl b (by simp at hb ⊢; exact .inr hb))
    rcases List.mem_or_eq_of_mem_set hb with hb | rfl
    · exact h b hb
    · exact hl x.2 (by simp)
theorem plS_ok (T : List FS) (N : List Need) (B : List Int) (p c : Int) (free : List Rg) (h : Bnd B) : Bnd (plS T N B p c free).2.2 ∧ (plS T N B p c free).2.2.length = B.length := by
  unfold plS
  refine ⟨setB_bnd _ _ h (fun b hb => ?_), setB_len _ _ _⟩
  obtain ⟨x, hx, rfl⟩ := List.mem_map.1 hb
  exact placeV_bnd _ _ _ (List.of_mem_zip hx).2

/-- The root bus: so many classes are done. -/
def rootR (T : List FS) (N : List Need) (h : Host) : Nat → Int × Cert × List Int
  | 0 => (0, noCert, List.replicate N.length 0)
  | k + 1 => if (rootR T N h k).1 ≠ 0 then rootR T N h k else plS T N (rootR T N h k).2.2 (-1) k (spaceF h k)
def winF (N : List Need) (B : List Int) (w : Nat) : Rg := (B.getD w 0, 2 ^ (N.getD w (0, 0, 0, 0)).2.2.2.toNat)
def brStep (T : List FS) (N : List Need) (B : List Int) (i c : Nat) : List Int :=
  match atN N i (-1 - (c : Int)) with
  | none => B
  | some w => (plS T N B i c [winF N B w]).2.2
def brR (T : List FS) (N : List Need) (B : List Int) : Nat → List Int
  | 0 => B
  | m + 1 => brStep T N (brR T N B m) (m / 3) (m % 3)

theorem rootR_ok (T : List FS) (N : List Need) (h : Host) : ∀ k, Bnd (rootR T N h k).2.2 ∧ (rootR T N h k).2.2.length = N.length
  | 0 => ⟨fun b hb => by have := (List.mem_replicate.1 hb).2; omega, by simp [rootR]⟩
  | k + 1 => by
    obtain ⟨h1, h2⟩ := rootR_ok T N h k
    unfold rootR
    split
    · exact ⟨h1, h2⟩
    · have := plS_ok T N (rootR T N h k).2.2 (-1) k (spaceF h k) h1
      exact ⟨this.1, by rw [this.2]; exact h2⟩
theorem brStep_ok (T : List FS) (N : List Need) (B : List Int) (i c : Nat) (h : Bnd B) : Bnd (brStep T N B i c) ∧ (brStep T N B i c).length = B.length := by
  unfold brStep
  split
  · exact ⟨h, rfl⟩
  · exact plS_ok _ _ _ _ _ _ h
theorem brR_ok (T : List FS) (N : List Need) (B : List Int) (h : Bnd B) : ∀ m, Bnd (brR T N B m) ∧ (brR T N B m).length = B.length
  | 0 => ⟨h, rfl⟩
  | m + 1 => by
    obtain ⟨h1, h2⟩ := brR_ok T N B h m
    have := brStep_ok T N (brR T N B m) (m / 3) (m % 3) h1
    exact ⟨this.1, by unfold brR; rw [this.2]; exact h2⟩
theorem rootR_stick {T : List FS} {N : List Need} {h : Host} {k : Nat} (hk : (rootR T N h k).1 ≠ 0) : ∀ d, rootR T N h (k + d) = rootR T N h k
  | 0 => rfl
  | d + 1 => by
    have ih := rootR_stick hk d
    rw [← Nat.add_assoc]
    show (if (rootR T N h (k + d)).1 ≠ 0 then rootR T N h (k + d) else _) = _
    rw [ih, if_pos hk]

def hiF (h : Host) : Bool := decide (0 < h.high.length)
/-- What Assign answers. -/
def AssignIs (T : List FS) (h : Host) (e : Int) (A : List Asg) (c : Cert) : Prop :=
  (¬ (ValidT T ∧ ValidH h) ∧ e = 1 ∧ A = [] ∧ c = noCert) ∨
  ((ValidT T ∧ ValidH h) ∧ ∃ e0 N, NeedsIs T (hiF h) e0 N ∧ ((e0 ≠ 0 ∧ e = e0 ∧ A = [] ∧ c = noCert) ∨
    (e0 = 0 ∧ (rootR T N h 3).1 ≠ 0 ∧ e = (rootR T N h 3).1 ∧ A = [] ∧ c = (rootR T N h 3).2.1) ∨
    (e0 = 0 ∧ (rootR T N h 3).1 = 0 ∧ e = 0 ∧ A = N.zip (brR T N (rootR T N h 3).2.2 (3 * T.length)) ∧ c = noCert)))
theorem AssignIs.uni {T : List FS} {h : Host} {e e' : Int} {A A' : List Asg} {c c' : Cert} (a : AssignIs T h e A c) (b : AssignIs T h e' A' c') : e = e' ∧ A = A' ∧ c = c' := by
  rcases a with ⟨a0, rfl, rfl, rfl⟩ | ⟨a0, e0, N, hN, a1⟩ <;> rcases b with ⟨b0, rfl, rfl, rfl⟩ | ⟨b0, e1, M, hM, b1⟩
  · exact ⟨rfl, rfl, rfl⟩
  · exact absurd b0 a0
  · exact absurd a0 b0
  · obtain ⟨rfl, rfl⟩ := hN.uni hM
    rcases a1 with ⟨u, rfl, rfl, rfl⟩ | ⟨u, v, rfl, rfl, rfl⟩ | ⟨u, v, rfl, rfl, rfl⟩ <;> rcases b1 with ⟨u', rfl, rfl, rfl⟩ | ⟨u', v', rfl, rfl, rfl⟩ | ⟨u', v', rfl, rfl, rfl⟩ <;> first | exact ⟨rfl, rfl, rfl⟩ | contradiction

/-- An answer of Assign in memory. -/
def AssignP (T : List FS) (h : Host) (H : Heap) (v : Value) (H' : Heap) : Prop :=
  ∃ (out : Sl) (e : Int) (A : List Asg) (c : Cert), v = .tuple #[.slice out.p out.n out.c, certV c, .int .i64 e] ∧ AssignIs T h e A c ∧ IsS 5 encA H' out A ∧ Own H.size t_api_Assignment 5 H' out (A.flatMap encA) ∧ Ext H H'

theorem AssignP.no {T : List FS} {h : Host} {H H' : Heap} {e : Int} {c : Cert} (ha : AssignIs T h e [] c) (he : Ext H H') : AssignP T h H (.tuple #[.slice none 0 0, certV c, .int .i64 e]) H' :=
  ⟨⟨none, 0, 0⟩, e, [], c, rfl, ha, IsS.nil _ _ _, Own.nil _ _ _ _, he⟩


end Go.Proofs.Ytigcheamheiopaa
