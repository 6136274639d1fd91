/-
  Needs: the tables in memory; one need is counted.
-/
import Derived.Test.YtfodidlecpiohaaR4
import Derived.Test.YtfodidlecpiohaaEngC
namespace Go.Proofs.Ytfodidlecpiohaa
open Go.Eng

abbrev slV (s : Sl) : Value := .slice s.p s.n s.c

def largestF (c : Int) : Int := if c = 0 then 15 else if c = 1 then 31 else 44
theorem largest_spec (c : Int) (H : Heap) : CallsH Try.prog n_resources_largest #[.int .i64 c] H (fun v H' => v = .int .i64 (largestF c) ∧ H' = H) := by
  refine F_resources_largest_ok _ ?_
  unfold F_resources_largest
  refine iteB_beq (fun h => ⟨by unfold largestF; rw [if_pos h], rfl⟩) (fun h => iteB_beq (fun h1 => ⟨by unfold largestF; rw [if_neg h, if_pos h1], rfl⟩) (fun h1 => ⟨by unfold largestF; rw [if_neg h, if_neg h1], rfl⟩))

/-- The tables of Needs: own needs (O, in block 'ob'), sizes below (B, in block 'bb'); functions from 'm' on are done. -/
structure NM (H0 : Heap) (n ob bb K : Nat) (H : Heap) (O B : Nat → Sl) (S : Nat → List Int) (m : Nat) (N : Nat → List Need) : Prop where
  ext : Ext H0 H
  ov : VB H ob t_sl_api_Need n (fun j => slV (O j))
  bv : VB H bb t_3_sl_int (3 * n) (fun q => slV (B q))
  bo : ∀ q, q < 3 * n → Own H0.size t_int 1 H (B q) ((S q).flatMap (encI .i64)) ∧ (B q).n = (S q).length ∧ (S q).length ≤ K
  ap : ∀ q q', q < 3 * n → q' < 3 * n → q ≠ q' → ∀ a, (B q).p = some a → a.block ∉ blkOf (B q').p
  on : ∀ j, m ≤ j → j < n → IsS 4 encN H (O j) (N j) ∧ TyB H (O j).p t_api_Need
  lo : H0.size ≤ ob ∧ H0.size ≤ bb ∧ ob ≠ bb

theorem NM.bty {H0 H : Heap} {n ob bb K m : Nat} {O B : Nat → Sl} {S : Nat → List Int} {N : Nat → List Need} (h : NM H0 n ob bb K H O B S m N) : TyB H (some ⟨bb, 0, none⟩) t_3_sl_int := fun a ha => by
  cases ha
  obtain ⟨x, hx⟩ := h.bv
  exact ⟨_, _, hx⟩
theorem NM.oty {H0 H : Heap} {n ob bb K m : Nat} {O B : Nat → Sl} {S : Nat → List Int} {N : Nat → List Need} (h : NM H0 n ob bb K H O B S m N) : TyB H (some ⟨ob, 0, none⟩) t_sl_api_Need := fun a ha => by
  cases ha
  obtain ⟨x, hx⟩ := h.ov
  exact ⟨_, _, hx⟩

theorem NM.ext' {H0 H H' : Heap} {n ob bb K m : Nat} {O B : Nat → Sl} {S : Nat → List Int} {N : Nat → List Need} (h : NM H0 n ob bb K H O B S m N) (e : Ext H H') : NM H0 n ob bb K H' O B S m N :=
  ⟨h.ext.trans e, h.ov.ext e, h.bv.ext e, fun q hq => ⟨(h.bo q hq).1.ext e, (h.bo q hq).2⟩, h.ap, fun j h1 h2 => ⟨(h.on j h1 h2).1.ext e, (h.on j h1 h2).2.mods (S := []) e.mods (fun _ _ => by simp)⟩, h.lo⟩

/-- A size is added to the list 'q'. -/
theorem NM.add {H0 H H14 : Heap} {n ob bb K m : Nat} {O B : Nat → Sl} {S : Nat → List Int} {N : Nat → List Need} (h : NM H0 n ob bb K H O B S m N) {q : Nat} (hq : q < 3 * n) {z : Int} {s' : Sl}
    (ho : Own H0.size t_int 1 H14 s' ((S q ++ [z]).flatMap (encI .i64))) (hn : s'.n = (B q).n + 1) (m14 : Mods (blkOf (B q).p) H H14) (hat : ∀ a, s'.p = some a → a.block ∈ blkOf (B q).p ∨ H.size ≤ a.block) :
    NM H0 n ob bb (K + 1) (wrs H14 ((⟨bb, 0, none⟩ : Addr).add q) [slV s']) O (upd B q s') (upd S q (S q ++ [z])) m N := by
  obtain ⟨oq, nq, lq⟩ := h.bo q hq
  have hty : ∀ (e : TypeId), e ≠ t_int → ∀ p, TyB H p e → ∀ a, p = some a → a.block ∉ blkOf (B q).p := fun e he p hp a ha => ty_ne hp (own_ty oq) he a ha
  have bb14 : TyB H14 (some ⟨bb, 0, none⟩) t_3_sl_int := h.bty.mods m14 (hty _ (by decide) _ h.bty)
  have hb14 : ∀ (e : TypeId), e ≠ t_3_sl_int → ∀ p, TyB H14 p e → ∀ a, p = some a → a.block ∉ [bb] := fun e he p hp a ha => by
    have := ty_ne hp bb14 he a ha
    simpa [blkOf] using this
  have mw : Mods [bb] H14 (wrs H14 ((⟨bb, 0, none⟩ : Addr).add q) [slV s']) := mods_wr_add (by simp)
  have hob : ob ∉ blkOf (B q).p := hty _ (by decide) _ h.oty ⟨ob, 0, none⟩ rfl
  have hbb : bb ∉ blkOf (B q).p := hty _ (by decide) _ h.bty ⟨bb, 0, none⟩ rfl
  refine ⟨Mods.ext (Mods.ext h.ext m14 (blkOf_new oq.new)) mw (by have := h.lo; simp; omega), (h.ov.mods m14 hob).mods mw (by have := h.lo; simp; omega), ?_, ?_, ?_, ?_, h.lo⟩
  · refine ((h.bv.mods m14 hbb).wr hq (slV s')).congr (fun i _ => ?_)
    by_cases e : i = q
    · subst e; rw [upd_same, upd_same]
    · rw [upd_ne e, upd_ne e]
  · intro q' hq'
    by_cases e : q' = q
    · subst e
      rw [upd_same, upd_same]
      exact ⟨ho.mods mw (hb14 _ (by decide) _ (own_ty ho)), by simp; omega, by simp; omega⟩
    · rw [upd_ne e, upd_ne e]
      obtain ⟨o', n', l'⟩ := h.bo q' hq'
      have o14 := o'.mods m14 (h.ap q' q hq' hq e)
      exact ⟨o14.mods mw (hb14 _ (by decide) _ (own_ty o14)), n', by omega⟩
  · intro q1 q2 h1 h2 hne a ha
    by_cases e1 : q1 = q
    · subst e1
      rw [upd_same] at ha
      rw [upd_ne (Ne.symm hne)]
      rcases hat a ha with hin | hge
      · cases hp : (B q1).p with
        | none => rw [hp] at hin; simp [blkOf] at hin
        | some b =>
          rw [hp] at hin
          simp only [blkOf, List.mem_singleton] at hin
          rw [hin]
          exact h.ap q1 q2 h1 h2 hne b hp
      · cases hp : (B q2).p with
        | none => simp [blkOf]
        | some b =>
          have := (h.bo q2 h2).1.lt b hp
          simp only [blkOf, List.mem_singleton]
          omega
    · rw [upd_ne e1] at ha
      by_cases e2 : q2 = q
      · subst e2
        rw [upd_same]
        cases hp : s'.p with
        | none => simp [blkOf]
        | some b =>
          simp only [blkOf, List.mem_singleton]
          rcases hat b hp with hin | hge
          · intro hab
            rw [← hab] at hin
            exact h.ap q1 q2 h1 h2 hne a ha hin
          · have := (h.bo q1 h1).1.lt a ha
            omega
      · rw [upd_ne e2]
        exact h.ap q1 q2 h1 h2 hne a ha
  · intro j h1 h2
    obtain ⟨u1, u2⟩ := h.on j h1 h2
    have a14 := u2.mods m14 (hty _ (by decide) _ u2)
    exact ⟨(u1.mods m14 (hty _ (by decide) _ u2)).mods mw (hb14 _ (by decide) _ a14), a14.mods mw (hb14 _ (by decide) _ a14)⟩

end Go.Proofs.Ytfodidlecpiohaa
