/-
  Needs: the needs of one function are counted.
-/
import Derived.Test.YtfodidlecpiohaaR5
namespace Go.Proofs.Ytfodidlecpiohaa
open Go.Eng

def addN (par : Int) (S : Nat → List Int) (x : Need) : Nat → List Int := if 0 ≤ par then upd S (par.toNat * 3 + x.2.2.1.toNat) (S (par.toNat * 3 + x.2.2.1.toNat) ++ [x.2.2.2]) else S
def addAll (par : Int) (S : Nat → List Int) (L : List Need) : Nat → List Int := L.foldl (addN par) S
def Over (L : List Need) : Prop := ∃ x ∈ L, x.2.2.2 > largestF x.2.2.1

theorem takeN_succ {L : List Need} {k : Nat} (h : k < L.length) : L.take (k + 1) = L.take k ++ [L.getD k (0, 0, 0, 0)] := by
  rw [List.take_add_one]
  simp [List.getD, h]

theorem needs_inner {R : Value → Heap → Prop} {T : List FS} {s : Sl} {H0 H4 H8 : Heap} {n ob : Nat} {H2 : Heap} {K i : Nat} {O B : Nat → Sl} {S : Nat → List Int} {N : Nat → List Need} {I : Int → Heap → Prop} {M : Int → Heap → Nat}
    (hT : Topo H0 s T) (hv : ValidT T) (hi : i < T.length) (hn : n = T.length) (hK : K + (N i).length ≤ 100000) (h8 : NM H0 n ob H2.size K H8 O B S i N) (hcl : ∀ x ∈ N i, 0 ≤ x.2.2.1 ∧ x.2.2.1 < 3)
    (hOver : ∀ H', Ext H0 H' → Over (N i) → R (.tuple #[.slice none 0 0, .int .i64 11]) H')
    (hDone : ∀ H' B', NM H0 n ob H2.size (K + (N i).length) H' O B' (addAll (fnAt T i).parent S (N i)) i N → ¬ Over (N i) → I (IntKind.i64.wrap ((i : Int) - 1)) H' ∧ M (IntKind.i64.wrap ((i : Int) - 1)) H' < M i H4) :
    ∃ I_1 : Int → Heap → Prop, ∃ M_1 : Int → Heap → Nat, I_1 (0 : Int) H8 ∧ (∀ x8 : Int, ∀ H9 : Heap, I_1 x8 H9 → F_resources_Needs_r1 R s H2 I M i H4 (O i) I_1 M_1 x8 H9) := by
  have hsn := hT.len
  have hOl := (h8.on i (Nat.le_refl _) (by omega)).1.len
  refine loop1 (N i).length (fun k H' => ∃ B', NM H0 n ob H2.size (K + k) H' O B' (addAll (fnAt T i).parent S ((N i).take k)) i N ∧ ∀ x ∈ (N i).take k, x.2.2.2 ≤ largestF x.2.2.1) ⟨B, h8, fun x hx => by simp at hx⟩ ?_
  rintro k H9 hk ⟨B', h9, hle⟩
  unfold F_resources_Needs_r1
  refine iteB_d (fun c => ?_) (fun c => ?_)
  · have hkn : k < (N i).length := by omega
    obtain ⟨is9, ty9⟩ := h9.on i (Nat.le_refl _) (by omega)
    obtain ⟨a, hp, hr⟩ := IsS.atN is9 (0, 0, 0, 0) hkn
    have hmem : (N i).getD k (0, 0, 0, 0) ∈ N i := by simp [List.getD, hkn]
    have htk := takeN_succ hkn
    generalize (N i).getD k (0, 0, 0, 0) = x at *
    obtain ⟨x0, x1, x2, x3⟩ := x
    have hc := hcl _ hmem
    dsimp only at hc
    refine ⟨by omega, by omega, unSome_mk hp ⟨_, hr 0 _ rfl, _, hr 1 _ rfl, _, hr 2 _ rfl, _, hr 3 _ rfl, local_mk (vs := [.int .i64 x0, .int .i64 x1, .int .i64 x2, .int .i64 x3]) rfl rfl fun H11 e11 z11 b11 => ⟨_, b11.rd (i := 3) rfl, _, b11.rd (i := 2) rfl, (largest_spec x2 H11).mono ?_⟩⟩⟩
    rintro v H12 ⟨rfl, rfl⟩
    have h12 := h9.ext' e11
    refine ⟨_, rfl, .refl _ _, iteB_d (fun c1 => hOver _ h12.ext ⟨_, hmem, c1⟩) (fun c1 => ?_)⟩
    have hle' : ∀ y ∈ (N i).take (k + 1), y.2.2.2 ≤ largestF y.2.2.1 := by
      intro y hy
      rw [htk] at hy
      simp only [List.mem_append, List.mem_singleton] at hy
      rcases hy with hy | rfl
      · exact hle y hy
      · show x3 ≤ largestF x2; omega
    obtain ⟨a1, hp1, hr1⟩ := (hT.ext h12.ext).at hi
    have hpa := (hv.2 i hi).pa
    have hadd : addAll (fnAt T i).parent S ((N i).take (k + 1)) = addN (fnAt T i).parent (addAll (fnAt T i).parent S ((N i).take k)) (x0, x1, x2, x3) := by
      rw [htk]; unfold addAll; rw [List.foldl_append]; rfl
    refine ⟨by omega, by omega, unSome_mk hp1 ⟨_, (rdFn hr1).1, iteB_d (fun c2 => ?_) (fun c2 => next1 hkn (by omega) ⟨B', ?_, hle'⟩)⟩⟩
    rotate_left
    · rw [hadd]; unfold addN; rw [if_neg c2]
      exact ⟨h12.ext, h12.ov, h12.bv, fun q hq => ⟨(h12.bo q hq).1, (h12.bo q hq).2.1, by have := (h12.bo q hq).2.2; omega⟩, h12.ap, h12.on, h12.lo⟩
    generalize hpar : (fnAt T i).parent = par at *
    have hpt : (par.toNat : Int) = par := by omega
    have hct : (x2.toNat : Int) = x2 := by omega
    have hq : par.toNat * 3 + x2.toNat < 3 * n := by omega
    obtain ⟨oq, nq, lq⟩ := h12.bo _ hq
    have hrdq := h12.bv.rd hq
    refine ⟨_, b11.rd (i := 2) rfl, _, b11.rd (i := 2) rfl, by omega, by omega, by omega, by omega, B' (par.toNat * 3 + x2.toNat), by rw [add_add, Nat.mul_one]; exact hrdq, _, b11.rd (i := 3) rfl, by omega, by omega, push_mk (vs := encI .i64 x3) fun H13 e13 z13 b13 => ⟨e13.keeps, ?_⟩⟩
    have h13 := h12.ext' e13
    obtain ⟨oq13, _, _⟩ := h13.bo _ hq
    have hsrc : Ints .i64 H13 ⟨some ⟨H12.size, 0, none⟩, 1, 1⟩ [x3] := Ints.of_blk b13 rfl
    refine append_at (src := ⟨some ⟨H12.size, 0, none⟩, 1, 1⟩) (ys := [x3]) (enc := encI .i64) (l := addAll par S ((N i).take k) (par.toNat * 3 + x2.toNat)) (z := .int .i64 0) (sz := 1) (bytes := 8) (lo := H0.size) (by kernel_rfl) (by kernel_rfl) rfl (by omega) (ints_row _) (ints_one _) oq13 hsrc (by simp) (by simp [maxLen]; omega) (by simp; omega) h13.ext.size ?_
    intro s' H14 ho hn14 m14 hat
    have tyl : TyB H13 (some ⟨H9.size, 0, none⟩) t_api_Need := fun a ha => by cases ha; exact ⟨_, _, b11.ext e13⟩
    have nl := ty_ne tyl (own_ty oq13) (by decide) ⟨H9.size, 0, none⟩ rfl
    have hbb : H2.size ∉ blkOf (B' (par.toNat * 3 + x2.toNat)).p := ty_ne h13.bty (own_ty oq13) (by decide) ⟨H2.size, 0, none⟩ rfl
    have bv14 := h13.bv.mods m14 hbb
    refine ⟨s', rfl, m14.keeps (by simpa [add_block] using nl), by omega, by omega, ?_, letH_mk ?_⟩
    · rw [add_add, Nat.mul_one]; exact bv14.ok (by omega)
    · rw [add_add, Nat.mul_one]
      rintro H15 rfl
      have := h13.add hq ho (by simpa using hn14) m14 (fun a ha => (hat a ha).elim .inl (fun e => .inr (by omega)))
      refine next1 hkn (by omega) ⟨upd B' (par.toNat * 3 + x2.toNat) s', ?_, hle'⟩
      rw [hadd]; unfold addN; rw [if_pos c2]
      exact this
  · have hkl : k = (N i).length := by omega
    subst hkl
    rw [List.take_length] at h9 hle
    exact letV_mk _ rfl (hDone H9 B' h9 (fun ⟨x, hx, hgt⟩ => by have := hle x hx; omega))

end Go.Proofs.Ytfodidlecpiohaa
