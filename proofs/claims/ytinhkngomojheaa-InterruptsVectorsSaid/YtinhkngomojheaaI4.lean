/-
  The program's Vectors (at most 20 functions with message interrupts, as Place_spec stands).
-/
import Derived.Test.YtinhkngomojheaaI3
namespace Go.Proofs.Ytinhkngomojheaa
open Go.Eng
set_option linter.unusedVariables false

theorem bitsLen_spec (v : Int) (H : Heap) (h : v = 1 ∨ v = 2 ∨ v = 4 ∨ v = 8 ∨ v = 16 ∨ v = 32) : CallsH Try.prog n_math_bits_Len #[.int .u64 v] H (fun r H' => r = .int .i64 (lg v + 1) ∧ H' = H) := by
  refine F_math_bits_Len_ok _ ?_
  unfold F_math_bits_Len
  refine (Len64_spec v H (by omega) (by omega)).mono ?_
  rintro r H1 ⟨k, rfl, hb, rfl⟩
  refine ⟨_, rfl, ?_, rfl⟩
  have h1 := hb.lt
  have hk : (k : Int) = lg v + 1 := by
    have hge := hb.ge
    have lo : ∀ n, k ≤ n → (2 : Int) ^ k ≤ 2 ^ n := fun n hn => pow_mono hn
    have hi : ∀ n, n + 1 ≤ k → (2 : Int) ^ n ≤ 2 ^ (k - 1) := fun n hn => pow_mono (by omega)
    have p0 : (2 : Int) ^ 0 = 1 := rfl
    have p1 : (2 : Int) ^ 1 = 2 := rfl
    have p2 : (2 : Int) ^ 2 = 4 := rfl
    have p3 : (2 : Int) ^ 3 = 8 := rfl
    have p4 : (2 : Int) ^ 4 = 16 := rfl
    have p5 : (2 : Int) ^ 5 = 32 := rfl
    have p6 : (2 : Int) ^ 6 = 64 := rfl
    have one : ∀ n : Nat, v = 2 ^ n → k = n + 1 := fun n hv => by
      by_cases c1 : k ≤ n
      · have := lo n c1; omega
      · by_cases c2 : n + 2 ≤ k
        · have q1 := hi (n + 1) (by omega)
          have q2 : (2 : Int) ^ (n + 1) = 2 ^ n * 2 := Int.pow_succ 2 n
          have q3 := pow_pos2 n
          rcases hge with e | e
          · omega
          · omega
        · omega
    rcases h with rfl | rfl | rfl | rfl | rfl | rfl
    · have := one 0 p0.symm; simp [lg]; omega
    · have := one 1 p1.symm; simp [lg]; omega
    · have := one 2 p2.symm; simp [lg]; omega
    · have := one 3 p3.symm; simp [lg]; omega
    · have := one 4 p4.symm; simp [lg]; omega
    · have := one 5 p5.symm; simp [lg]; omega
  rw [hk]

/-- An answer of Vectors in memory. -/
def VecP (x : Int × List Int × Cert) (H : Heap) (v : Value) (H' : Heap) : Prop :=
  ∃ out : Sl, v = .tuple #[.slice out.p out.n out.c, certV x.2.2, .int .i64 x.1] ∧ Ints .i64 H' out x.2.1 ∧ Ext H H'

/-- The two lists that are collected. -/
structure VS (T : List FS) (H2 : Heap) (k : Nat) (users sizes : Sl) (H' : Heap) : Prop where
  u : Own H2.size t_int 1 H' users ((uF T k).flatMap (Go.Eng.encI .i64))
  s : Own H2.size t_int 1 H' sizes ((sF T k).flatMap (Go.Eng.encI .i64))
  ne : ∀ a b, users.p = some a → sizes.p = some b → a.block ≠ b.block
  ext : Ext H2 H'

theorem nblk {p : Option Addr} {b : Nat} (h : ∀ a, p = some a → a.block ≠ b) : b ∉ blkOf p := by
  cases p with
  | none => simp [blkOf]
  | some a => simp only [blkOf, List.mem_singleton]; exact fun e => h a rfl e.symm

theorem vec_round (T : List FS) (s : Sl) (H H2 : Heap) (h2 : Topo H2 s T) (hv : ValidT T) (k : Nat) (users sizes : Sl) (H4 : Heap) (R : Value → Heap → Prop) (hk : k < T.length) (hT : T.length ≤ 64) (st : VS T H2 k users sizes H4) :
    F_interrupts_Vectors_r2 R H s (CI3 T.length (fun k u z H' => VS T H2 k u z H')) (CM3 T.length) users sizes k H4 := by
  unfold F_interrupts_Vectors_r2
  have hn := h2.len
  obtain ⟨a, hpa, hr⟩ := (h2.ext st.ext).at hk
  obtain ⟨p0, p1, p2, p3, p4, p5, p6, p7, p8, p9, p10⟩ := rdFn hr
  have hvec := vec_pow (hv.2 k hk).va
  have hus := useN_succ T k
  have hul := useN_len T k
  have un := Own.len rkInt st.u
  have sn := Own.len rkInt st.s
  have hul' : (uF T k).length = (useN T k).length := by simp [uF]
  have hsl' : (sF T k).length = (useN T k).length := by simp [sF]
  refine iteB_pos (by simp; omega) ⟨by omega, by omega, unSome_mk hpa ⟨_, p0, _, p1, _, p2, _, p3, _, p4, _, p5, _, p6, _, p7, _, p8, _, p9, slAt T k, p10, local_mk (vs := fnL (fnAt T k) (slAt T k)) rfl rfl fun H6 e6 z6 b6 => ?_⟩⟩
  have q9 := (Blk.fn b6).2.2.2.2.2.2.2.2.2.1
  have x6 := st.ext.trans e6
  refine ⟨_, q9, iteB_dec (fun d => ?_) (fun d => next3 hk (by omega) ⟨?_, ?_, st.ne, x6⟩)⟩
  · have hu1 : uF T (k + 1) = uF T k ++ [(k : Int)] := by unfold uF; rw [hus, if_pos (by omega), List.map_append]; rfl
    have hs1 : sF T (k + 1) = sF T k ++ [lg (fnAt T k).vec] := by unfold sF; rw [hus, if_pos (by omega), List.map_append]; rfl
    have ou := st.u.ext e6
    have os := st.s.ext e6
    refine apRat rkInt (k : Int) (lo := H2.size) ou (by omega) x6.size ?_
    intro users1 H8 o8 n8 m8 at8
    have e8 : Ext H2 H8 := Mods.ext x6 m8 (blkOf_new ou.new)
    have os8 := os.mods m8 (fun a ha => by
      cases hu : users.p with
      | none => simp [blkOf]
      | some b => simp only [blkOf, List.mem_singleton]; exact fun e => st.ne b a hu ha e.symm)
    have b8 := b6.mods m8 (nblk (fun a ha => by have := st.u.lt a ha; omega))
    have q9' := (Blk.fn b8).2.2.2.2.2.2.2.2.2.1
    have hne8 : ∀ a b, users1.p = some a → sizes.p = some b → a.block ≠ b.block := fun a b ha hb => by
      rcases at8 a ha with h1 | h1
      · cases hu : users.p with
        | none => rw [hu] at h1; simp [blkOf] at h1
        | some c => rw [hu] at h1; simp only [blkOf, List.mem_singleton] at h1; rw [h1]; exact st.ne c b hu hb
      · have := os.lt b hb; omega
    refine ⟨_, q9', ?_⟩
    rw [u64_in (n := (fnAt T k).vec) (by omega)]
    refine (bitsLen_spec _ H8 (by omega)).mono ?_
    rintro v H9 ⟨rfl, rfl⟩
    have hlr := lg_range (fnAt T k).vec
    refine ⟨_, rfl, ?_⟩
    rw [i64_in (n := lg (fnAt T k).vec + 1 - 1) (by omega), show lg (fnAt T k).vec + 1 - 1 = lg (fnAt T k).vec by omega]
    refine apRat rkInt (lg (fnAt T k).vec) (lo := H2.size) os8 (by omega) e8.size ?_
    intro sizes1 H11 o11 n11 m11 at11
    refine next3 hk (by omega) ⟨?_, by rw [hs1]; exact o11, fun a b ha hb => ?_, Mods.ext e8 m11 (blkOf_new os8.new)⟩
    · rw [hu1]
      exact o8.mods m11 (fun a ha => by
        cases hz : sizes.p with
        | none => simp [blkOf]
        | some b => simp only [blkOf, List.mem_singleton]; exact fun e => hne8 a b ha hz e)
    · rcases at11 b hb with h1 | h1
      · cases hz : sizes.p with
        | none => rw [hz] at h1; simp [blkOf] at h1
        | some c => rw [hz] at h1; simp only [blkOf, List.mem_singleton] at h1; rw [h1]; exact hne8 a c ha hz
      · have := o8.lt a ha; omega
  · have : uF T (k + 1) = uF T k := by unfold uF; rw [hus, if_neg (by omega), List.append_nil]
    rw [this]; exact st.u.ext e6
  · have : sF T (k + 1) = sF T k := by unfold sF; rw [hus, if_neg (by omega), List.append_nil]
    rw [this]; exact st.s.ext e6

end Go.Proofs.Ytinhkngomojheaa
