/-
  The contract of Needs, whole.
-/
import Derived.Test.YtfodidlecpiohaaR7
namespace Go.Proofs.Ytfodidlecpiohaa
open Go.Eng

theorem range_flat_succ {α : Type} (f : Nat → List α) (k : Nat) : (List.range (k + 1)).flatMap f = (List.range k).flatMap f ++ f k := by
  rw [List.range_succ, List.flatMap_append]
  simp

theorem needs_last {T : List FS} {s : Sl} {high : Bool} {H0 H1 H4 : Heap} {bb : Nat} (hT : Topo H0 s T) (hv : ValidT T) (h4 : NI T high H0 H1.size bb T.length H4) :
    ∃ I_2 : Sl → Int → Heap → Prop, ∃ M_2 : Sl → Int → Heap → Nat, I_2 (Sl.mk none 0 0) (0 : Int) H4 ∧ (∀ needs : Sl, ∀ x21 : Int, ∀ H16 : Heap, I_2 needs x21 H16 → F_resources_Needs_r2 (NeedsR T high H0) s H1 I_2 M_2 needs x21 H16) := by
  obtain ⟨O, B, hM4, hov⟩ := h4
  have hsn := hT.len
  have hl64 := hv.1
  have hnA : ∀ j, j < T.length → (nB T high T.length).1 j = needsAt T high j := fun j _ => rfl
  have hlen9 : ∀ j, j < T.length → (needsAt T high j).length ≤ 9 := fun j hj => by
    rw [← needsAt_eq (k := T.length - j) (by omega) (by omega)]
    obtain ⟨m, hm⟩ : ∃ m, T.length - j = m + 1 := ⟨T.length - j - 1, by omega⟩
    rw [hm]
    have : T.length - 1 - m = j := by omega
    show List.length (upd (nB T high m).1 (T.length - 1 - m) (ownL T high (T.length - 1 - m) (nB T high m).2) j) ≤ 9
    rw [this, upd_same]
    exact ownL_len hv high hj _
  refine loop2 T.length (fun k out H' => Own H4.size t_api_Need 4 H' out (((List.range k).flatMap (needsAt T high)).flatMap encN) ∧ out.n = ((List.range k).flatMap (needsAt T high)).length ∧ ((List.range k).flatMap (needsAt T high)).length ≤ 9 * k ∧ Ext H4 H') ⟨Own.nil _ _ _ _, rfl, by simp, .refl _⟩ ?_
  rintro k out H16 hk ⟨o, no, lo, e16⟩
  unfold F_resources_Needs_r2
  have h16 := hM4.ext' e16
  refine iteB_d (fun c => ?_) (fun c => ?_)
  · have hkn : k < T.length := by omega
    obtain ⟨isk, tyk⟩ := h16.on k (by omega) hkn
    rw [hnA k hkn] at isk
    have h9 := hlen9 k hkn
    refine ⟨by omega, by omega, O k, by rw [Int.toNat_natCast, Nat.mul_one]; exact h16.ov.rd hkn, ?_⟩
    have hstep : ∀ (s' : Sl) (H' : Heap), Own H4.size t_api_Need 4 H' s' (((List.range k).flatMap (needsAt T high) ++ needsAt T high k).flatMap encN) → s'.n = out.n + (needsAt T high k).length → Ext H4 H' →
        CI2 T.length (fun k out H' => Own H4.size t_api_Need 4 H' out (((List.range k).flatMap (needsAt T high)).flatMap encN) ∧ out.n = ((List.range k).flatMap (needsAt T high)).length ∧ ((List.range k).flatMap (needsAt T high)).length ≤ 9 * k ∧ Ext H4 H') s' (IntKind.i64.wrap ((k : Int) + 1)) H' ∧ CM2 T.length s' (IntKind.i64.wrap ((k : Int) + 1)) H' < CM2 T.length out (k : Int) H16 := by
      intro s' H' ho hn he
      refine next2 hkn (by omega) ⟨?_, ?_, ?_, he⟩
      · rw [range_flat_succ]; exact ho
      · rw [range_flat_succ, List.length_append]; omega
      · rw [range_flat_succ, List.length_append]; omega
    cases hp : (O k).p with
    | none =>
      have h0 : needsAt T high k = [] := by
        rcases isk.row with e | ⟨a, ha, _⟩
        · exact e
        · rw [hp] at ha; cases ha
      have hn0 : (O k).n = 0 := by rw [isk.len, h0]; rfl
      rw [hn0]
      refine append_none (e := t_api_Need) (sz := 4) (by kernel_rfl) (by kernel_rfl) ?_ ⟨out, rfl, hstep out H16 ?_ ?_ e16⟩
      · rcases o.cases.2 with ⟨e, _⟩ | ⟨_, _, _, _, _, hc, _⟩
        · rw [e]; simp
        · exact hc
      · rw [h0, List.append_nil]; exact o
      · rw [h0]; rfl
    | some ad =>
      rw [← hp]
      refine append_at (enc := encN) (z := .agg #[.int .i64 0, .int .i64 0, .int .i64 0, .int .i64 0]) (sz := 4) (bytes := 32) (lo := H4.size) (by kernel_rfl) (by kernel_rfl) rfl (by omega) encN_len encN_one o isk (by rw [hp]; simp) (by simp [maxLen]; omega) (by omega) e16.size ?_
      intro s' H17 ho hn17 m17 _
      exact ⟨s', rfl, hstep s' H17 ho hn17 (Mods.ext e16 m17 (blkOf_new o.new))⟩
  · obtain rfl : k = T.length := by omega
    refine .good out hv ?_ (own_lo o hM4.ext.size) no (hM4.ext.trans e16)
    rintro ⟨j, hj, ho⟩
    exact hov j (by omega) hj ho

theorem zero_vb {H : Heap} {e : TypeId} {z v : Value} {n c : Nat} (hc : z.cells.size = c) (hz : ∀ j, j < c → z.cells[j]! = v) (h0 : 0 < c) : VB (H.push (.cells (zeroRow z n) e (0, 0))) H.size e (n * c) (fun _ => v) := by
  have : zeroRow z n = (tab (n * c) (fun _ => v)).toArray := by
    unfold zeroRow tab
    rw [hc]
    apply Array.ext'
    simp only [Array.toList_map, Array.toList_range]
    apply List.map_congr_left
    intro i _
    exact hz _ (Nat.mod_lt _ h0)
  rw [this]
  exact ⟨[], by simpa using Blk.new H e _⟩

theorem Needs_spec (T : List FS) (s : Sl) (high : Bool) (H : Heap) (h : Topo H s T) : CallsH Try.prog n_resources_Needs #[.slice s.p s.n s.c, .bool high] H (NeedsR T high H) := by
  refine F_resources_Needs_ok _ _ ?_
  unfold F_resources_Needs
  refine (eValid_spec T s H h).mono ?_
  rintro v H1 ⟨rfl, e1⟩
  refine ⟨_, rfl, iteB_not (fun c => .bad (by simpa using c) e1) (fun c => ?_)⟩
  have hv : ValidT T := by simpa using c
  have hl64 := hv.1
  have hsn := h.len
  refine ⟨by omega, by omega, by omega, letH_mk ?_⟩
  rw [Int.toNat_natCast]
  intro H2 h2
  have e2 : Ext H1 H2 := by rw [h2]; exact Ext.push _ _
  have z2 : H2.size = H1.size + 1 := by rw [h2]; simp
  have o2 : VB H2 H1.size t_sl_api_Need (s.n * 1) (fun _ => .slice none 0 0) := by
    rw [h2]
    refine zero_vb (z := .slice none 0 0) (c := 1) rfl (fun j hj => ?_) (by omega)
    obtain rfl : j = 0 := by omega
    rfl
  clear h2
  refine ⟨by omega, by omega, by omega, letH_mk ?_⟩
  intro H3 h3
  have e3 : Ext H2 H3 := by rw [h3]; exact Ext.push _ _
  have b3 : VB H3 H2.size t_3_sl_int (s.n * 3) (fun _ => .slice none 0 0) := by
    rw [h3]
    refine zero_vb (z := .agg #[.slice none 0 0, .slice none 0 0, .slice none 0 0]) (c := 3) rfl (fun j hj => ?_) (by omega)
    rcases (by omega : j = 0 ∨ j = 1 ∨ j = 2) with rfl | rfl | rfl <;> rfl
  clear h3
  have x3 := (e1.trans e2).trans e3
  have hz1 := e1.size
  rw [hsn] at o2 b3
  rw [Nat.mul_one] at o2
  rw [Nat.mul_comm] at b3
  have hNM : NM H T.length H1.size H2.size 0 H3 (fun _ => ⟨none, 0, 0⟩) (fun _ => ⟨none, 0, 0⟩) (nB T high 0).2 T.length (nB T high 0).1 :=
    ⟨x3, o2.ext e3, b3, fun q _ => ⟨Own.nil _ _ _ _, rfl, by simp [nB]⟩, fun _ _ _ _ _ a ha => (by cases ha), fun j h1 h2 => (by omega), by omega⟩
  refine letV_mk ((T.length : Int) - 1) (by rw [hsn, i64_in (by omega)]) ⟨fun i H' => ∃ k : Nat, i = (T.length : Int) - 1 - k ∧ k ≤ T.length ∧ NI T high H H1.size H2.size k H', fun i _ => (i + 1).toNat, ⟨0, by simp, by omega, _, _, hNM, fun j h1 h2 => by omega⟩, ?_⟩
  rintro i H4 ⟨k, rfl, hk, h4⟩
  by_cases hkT : k = T.length
  · subst hkT
    unfold F_resources_Needs_r3
    exact iteB_neg (by simp; omega) (needs_last h hv h4)
  · have hkl : k < T.length := by omega
    have he : (T.length : Int) - 1 - k = ((T.length - 1 - k : Nat) : Int) := by omega
    rw [he]
    exact needs_round h hv hkl h4 rfl rfl

end Go.Proofs.Ytfodidlecpiohaa
