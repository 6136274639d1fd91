/-
 slices.Replace of one range, and the program's take.
-/
import Derived.Test.YtigcheamheiopaaGreatEngR
import Derived.Test.YtigcheamheiopaaGreatP2
namespace Go.Proofs.YtigcheamheiopaaGreat
open Go.Eng
set_option linter.unusedVariables false

theorem overlaps_spec (H : Heap) (a b : Addr) (la ca lb cb : Nat) (hne : a.block ≠ b.block) {cA cB : Array Value} {tA tB : TypeId} (hA : H[a.block]? = some (.cells cA tA (0, 0))) (hB : H[b.block]? = some (.cells cB tB (0, 0))) (hk : cB.size ≠ 0) {K : Value → Heap → Prop} (hK : K (.bool false) H) :
  runH Tryz.prog (callFunc n_slices_overlaps_api_Range #[.slice (some a) la ca, .slice (some b) lb cb]) H (fun nx H' => nextV nx (fun v => K v H')) := by
 intro w hw
 subst hw
 refine ⟨.value (.bool false), w, ?_, .refl w, hK⟩
 rw [run_callFunc_extern (fn := Tryz.f106) (by kernel_rfl) (by kernel_rfl) (by kernel_rfl) (by kernel_rfl) (e := Extern.SlicesOverlaps.overlaps #[t_sl_api_Range, t_sl_api_Range] #[4]) (by kernel_rfl),
  Lib.run_overlaps_apart w t_sl_api_Range 4 t_api_Range rkRange.ht 2 Tryz.sizeOf60 a b la ca lb cb hne tA tB cA.size cB.size (by simp [World.shape?, hA]) (by simp [World.shape?, hB]) hk (by simp [World.frozen?, hA]) (by simp [World.frozen?, hA])]
 rfl

theorem nmin {a b : Nat} (h : a ≤ b) : Nat.min a b = a := Nat.min_eq_left h
theorem encR_oneF (V : List Rg) : ∀ u ∈ V.flatMap encR, oneC u = true := fun u hu => by
 obtain ⟨x, _, hx⟩ := List.mem_flatMap.1 hu
 exact encR_one x u hx
theorem flatR_take (L : List Rg) (i : Nat) : (L.take i).flatMap encR = (L.flatMap encR).take (i * 2) := by
 have h1 := flat_len encR_len L
 by_cases hi : i ≤ L.length
 ·have h3 := flat_len encR_len (L.take i)
  rw [List.length_take, Nat.min_eq_left hi] at h3
  have h2 : L.flatMap encR = (L.take i).flatMap encR ++ (L.drop i).flatMap encR := by rw [← List.flatMap_append, List.take_append_drop]
  conv => rhs; rw [h2]
  exact (List.take_left' h3).symm
 ·rw [List.take_of_length_le (by omega), List.take_of_length_le (by omega)]
theorem flatR_drop (L : List Rg) (i : Nat) : (L.drop i).flatMap encR = (L.flatMap encR).drop (i * 2) := by
 have h1 := flat_len encR_len L
 by_cases hi : i ≤ L.length
 ·have h3 := flat_len encR_len (L.take i)
  rw [List.length_take, Nat.min_eq_left hi] at h3
  have h2 : L.flatMap encR = (L.take i).flatMap encR ++ (L.drop i).flatMap encR := by rw [← List.flatMap_append, List.take_append_drop]
  conv => rhs; rw [h2]
  exact (List.drop_left' h3).symm
 ·rw [List.drop_of_length_le (by omega), List.drop_of_length_le (by omega)]
  rfl

theorem zero_oneR (n : Nat) : ∀ u ∈ (Builtin.zeroCells (.agg #[.int .u64 0, .int .u64 0] : Value).cells n).toList, oneC u = true := fun u hu => by
 simp only [Builtin.zeroCells, Array.toList_map, List.mem_map] at hu
 obtain ⟨i, _, rfl⟩ := hu
 have : (Value.agg #[.int .u64 0, .int .u64 0]).cells = #[.int .u64 0, .int .u64 0] := rfl
 rw [this]
 rcases (by omega : i % 2 = 0 ∨ i % 2 = 1) with e | e
 ·show oneC (#[Value.int .u64 0, .int .u64 0][i % 2]!) = true
  rw [e]; rfl
 ·show oneC (#[Value.int .u64 0, .int .u64 0][i % 2]!) = true
  rw [e]; rfl

def ReplP (lo : Nat) (L : List Rg) (H : Heap) (s : Sl) (v : Value) (H' : Heap) : Prop := ∃ x : Sl, v = .slice x.p x.n x.c ∧ Own lo t_api_Range 2 H' x (L.flatMap encR) ∧ Mods (blkOf s.p) H H'

set_option maxHeartbeats 2000000 in
theorem Replace_spec (H : Heap) (s v : Sl) (L V : List Rg) (lo lo' i : Nat) (o : Own lo t_api_Range 2 H s (L.flatMap encR)) (ov : Own lo' t_api_Range 2 H v (V.flatMap encR)) (hsep : ∀ a b, s.p = some a → v.p = some b → a.block ≠ b.block)
  (hvnil : V = [] → v = ⟨none, 0, 0⟩) (hlo : lo ≤ H.size) (hi : i < L.length) (hV : V.length ≤ 2) (hL : L.length ≤ 100000) :
  CallsH Tryz.prog n_slices_Replace_sl_api_Range_api_Range #[.slice s.p s.n s.c, .int .i64 (i : Int), .int .i64 ((i + 1 : Nat) : Int), .slice v.p v.n v.c] H (ReplP lo (L.take i ++ V ++ L.drop (i + 1)) H s) := by
 have hn := Own.len rkRange o
 have hm := Own.len rkRange ov
 have hXl := flat_len encR_len L
 have hFl := flat_len encR_len V
 have hE : (L.take i ++ V ++ L.drop (i + 1)).flatMap encR = (L.flatMap encR).take (i * 2) ++ V.flatMap encR ++ (L.flatMap encR).drop (i * 2 + 2) := by
  rw [List.flatMap_append, List.flatMap_append, flatR_take, flatR_drop, show (i + 1) * 2 = i * 2 + 2 by omega]
 obtain ⟨g, hp⟩ : ∃ g, s.p = some ⟨g, 0, none⟩ := by
  rcases o.cases.2 with ⟨h3, _⟩ | ⟨g, cur, h3, _⟩
  ·rw [h3] at hn; simp at hn; omega
  ·exact ⟨g, h3⟩
 obtain ⟨cur, hb, hcs, hg, hnc⟩ := o.block hp
 have hgl : g < H.size := get_lt hb
 have hF1 := encR_oneF V
 have hX1 := encR_oneF L
 have hvs : (v.p = none ∧ V.flatMap encR = []) ∨ ∃ gv, v.p = some ⟨gv, 0, none⟩ ∧ gv ≠ g ∧ gv < H.size := by
  rcases ov.cases.2 with ⟨h3, h4⟩ | ⟨gv, cv, h3, _, h5, _⟩
  ·exact .inl ⟨by rw [h3], h4⟩
  ·exact .inr ⟨gv, h3, fun e => hsep _ _ hp h3 (by simp [e]), get_lt h5⟩
 refine F_slices_Replace_sl_api_Range_api_Range_ok _ _ _ _ ?_
 unfold F_slices_Replace_sl_api_Range_api_Range
 have hw1 : IntKind.i64.wrap ((i : Int) + (v.n : Int)) = ((i + v.n : Nat) : Int) := by rw [i64_in (by omega)]; omega
 simp only [slP0, Nat.sub_zero, Int.toNat_natCast, hw1]
 refine ⟨by omega, by omega, by omega, by omega, iteB_beq (fun d => by omega) (fun d0 => iteB_beq (fun d => ?_) (fun d => ?_))⟩
 · -- the last one
  have hin : i + 1 = L.length := by omega
  refine ⟨by omega, by omega, ?_⟩
  have opre := o.pre (n := i) (by rw [hp]; simp) (by omega)
  rw [← flatR_take] at opre
  have hnil : L.drop (i + 1) = [] := List.drop_of_length_le (by omega)
  rw [show L.take i ++ V ++ L.drop (i + 1) = L.take i ++ V by rw [hnil, List.append_nil]]
  by_cases hV0 : V = []
  ·have hvn := hvnil hV0
   subst hV0
   subst hvn
   obtain ⟨ii, hi1, _, hi3, _⟩ := info_ex rkRange.hi
   refine append_none (s := ⟨s.p, i, s.c⟩) (e := t_api_Range) (sz := 2) rkRange.ht (by simp [szT, hi1, hi3]) (by dsimp only; omega) ?_
   refine ⟨⟨s.p, i, s.c⟩, rfl, iteB_dec (fun d1 => ⟨by omega, by omega, ?_⟩) (fun d1 => by dsimp only at d1; omega)⟩
   dsimp only
   rw [hp, slP_some (by omega)]
   refine clear_put (g := g) (o := i * 2) rkRange.ht rkRange.hi rkRange.hzs (zero_oneR _) hb (by rw [hcs]; omega) ?_
   intro H3 vs put hvl _
   refine ⟨rfl, ⟨some ⟨g, 0, none⟩, i, s.c⟩, rfl, ?_, ?_⟩
   ·rw [← hp, List.append_nil]
    refine opre.behind put ?_ (fun cur' e' hc => ?_)
    ·rw [flat_len encR_len]; simp; omega
    ·rw [hb] at hc
     simp only [Option.some.injEq, Obj.cells.injEq] at hc
     rw [← hc.1, hcs, hvl]
     omega
   ·rw [hp]; exact put.mods
  ·have hVp : 0 < V.length := List.length_pos_iff.2 hV0
   refine apA (s := ⟨s.p, i, s.c⟩) rkRange opre (Own.is rkRange ov) (by dsimp only; omega) hlo ?_
   intro s2 H2 o2 n2 m2 at2
   dsimp only at n2
   exact ⟨s2, rfl, iteB_dec (fun d1 => by omega) (fun d1 => ⟨s2, rfl, o2, m2⟩)⟩
 · -- in the midst
  have hin : i + 1 < L.length := by omega
  refine ⟨by omega, by omega, by omega, by omega, letV_mk ((L.length - 1 + v.n : Nat) : Int) (by rw [i64_in (by omega)]; omega) ?_⟩
  have hw2 : IntKind.i64.wrap (((L.length - 1 + v.n : Nat) : Int) - (i : Int)) = ((L.length - 1 + v.n - i : Nat) : Int) := by rw [i64_in (by omega)]; omega
  simp only [hw2, Int.toNat_natCast]
  generalize hX : L.flatMap encR = X at *
  generalize hF : V.flatMap encR = F at *
  have rdV : ∀ (H' : Heap), Own lo' t_api_Range 2 H' v F → (v.p = none ∧ F = []) ∨ ∃ ad, v.p = some ad ∧ ∀ j u, F[j]? = some u → rd H' (ad.add j) = some u := fun H' o' => by
   rcases hvs with h0 | ⟨gv, h1, h2, h3⟩
   ·exact .inl h0
   ·refine .inr ⟨_, h1, ?_⟩
    have := o'.rdAt h1 0
    simpa using this
  have vmod : ∀ (H' : Heap), Mods [g] H H' → Own lo' t_api_Range 2 H' v F := fun H' m' => ov.mods m' (fun a ha => by
   rcases hvs with h0 | ⟨gv, h1, h2, h3⟩
   ·rw [h0.1] at ha; cases ha
   ·rw [h1] at ha; cases ha; simpa using h2)
  have szR : szT Tryz.prog t_api_Range = some 2 := by
   obtain ⟨ii, hi1, _, hi3, _⟩ := info_ex rkRange.hi
   simp [szT, hi1, hi3]
  have hY1 : ∀ u ∈ X.drop (i * 2 + 2), oneC u = true := fun u hu => hX1 u (List.mem_of_mem_drop hu)
  have hYl : (X.drop (i * 2 + 2)).length = (L.length - (i + 1)) * 2 := by rw [List.length_drop]; omega
  have hAl : (X.take (i * 2)).length = i * 2 := by rw [List.length_take]; omega
  have opre := o.pre (n := i) (by rw [hp]; simp) (by omega)
  refine iteB_dec (fun d1 => ?_) (fun d1 => ⟨by omega, by omega, iteB_dec (fun d2 => ?_) (fun d2 => ?_)⟩)
  · -- no room
   have hv2 : v.n = 2 := by omega
   refine ⟨by omega, by omega, append_zeros (s := ⟨s.p, i, s.c⟩) rkRange.ht (kn := .i64) (by kernel_rfl) rkRange.hi rkRange.hzs (by omega) opre hp (by omega) (by dsimp only; omega) (by simp only [maxLen]; omega) (by dsimp only; omega) ?_⟩
   intro c' zs H4 o4 hz4 e4
   dsimp only at o4 ⊢
   rw [show i + (L.length - 1 + v.n - i) = L.length + 1 by omega] at o4 ⊢
   obtain ⟨cur4, hb4, hcs4, _, hnc4⟩ := o4.block rfl
   dsimp only at hcs4 hnc4
   refine ⟨⟨some ⟨H.size, 0, none⟩, L.length + 1, c'⟩, rfl, by omega, by dsimp only; omega, ?_⟩
   dsimp only
   rw [slP_some (by omega)]
   refine copy_put (vs := F) rkRange.ht szR hb4 (by rw [hFl, ← hm, nmin (by omega)]) (by omega) (rdV H4 (ov.ext e4)) hF1 ?_
   intro H5 p5
   have o5 := o4.put (n' := L.length + 1) rfl p5 (by rw [List.length_append, hAl]; omega) (by dsimp only; omega) (by rw [List.length_append, hAl]; omega) (by dsimp only; omega)
   have hAz : (X.take (i * 2) ++ zs).take (i * 2) = X.take (i * 2) := List.take_left' hAl
   rw [hAz] at o5
   have e5 : Ext H H5 := Mods.ext e4 p5.mods (by simp)
   refine ⟨_, rfl, by omega, by omega, by omega, by omega, ?_⟩
   rw [slP_some (by omega), hp, slP_some (by omega)]
   obtain ⟨cur5, hb5, hcs5, _, _⟩ := o5.block rfl
   dsimp only at hcs5
   have hrd := (o.ext e5).rdAt hp ((i + 1) * 2)
   rw [show (i + 1) * 2 = i * 2 + 2 by omega] at hrd ⊢
   refine copy_put (src := ⟨some ⟨g, i * 2 + 2, none⟩, s.n - (i + 1), s.c - (i + 1)⟩) (vs := X.drop (i * 2 + 2)) rkRange.ht szR hb5 (by dsimp only; rw [hYl, hn, nmin (by omega)]) (by rw [hYl]; omega) (.inr ⟨_, rfl, hrd⟩) hY1 ?_
   intro H6 p6
   have o6 := o5.put (n' := L.length + 1) rfl p6 (by simp only [List.length_append, List.length_drop, hAl]; omega) (by dsimp only; rw [hYl]; omega) (by simp only [List.length_append, List.length_drop, hAl]; omega) (by dsimp only; omega)
   refine ⟨_, rfl, ⟨some ⟨H.size, 0, none⟩, L.length + 1, c'⟩, rfl, own_lo ?_ hlo, (Mods.ext e5 p6.mods (by simp)).mods⟩
   rw [hE]
   have t1 : (X.take (i * 2) ++ F ++ (X.take (i * 2) ++ zs).drop (i * 2 + F.length)).take ((i + v.n) * 2) = X.take (i * 2) ++ F := List.take_left' (by rw [List.length_append, hAl]; omega)
   have t2 : (X.take (i * 2) ++ F ++ (X.take (i * 2) ++ zs).drop (i * 2 + F.length)).drop ((i + v.n) * 2 + (X.drop (i * 2 + 2)).length) = [] := List.drop_of_length_le (by simp only [List.length_append, List.length_drop, hAl]; omega)
   rw [t1, t2, List.append_nil] at o6
   exact o6
  · -- at most one
   refine ⟨by omega, by omega, ?_⟩
   rw [hp, slP_some (by omega)]
   refine copy_put (vs := F) rkRange.ht szR hb (by rw [hFl, ← hm, nmin (by omega)]) (by omega) (rdV H ov) hF1 ?_
   intro H7 p7
   have o7 := o.put (n' := L.length) hp p7 (by omega) (by omega) (by omega) (by omega)
   refine ⟨_, rfl, by omega, by omega, by omega, by omega, ?_⟩
   rw [slP_some (by omega), slP_some (by omega)]
   obtain ⟨cur7, hb7, hcs7, _, _⟩ := o7.block hp
   dsimp only at hcs7
   have hrd := o7.rdAt hp ((i + 1) * 2)
   have t0 : (X.take (i * 2) ++ F ++ X.drop (i * 2 + F.length)).drop ((i + 1) * 2) = X.drop (i * 2 + 2) := by
    have hAF : (X.take (i * 2) ++ F).length = i * 2 + F.length := by rw [List.length_append, hAl]
    have q : (X.take (i * 2) ++ F).drop ((i + 1) * 2) = [] := List.drop_of_length_le (by rw [hAF]; omega)
    rw [List.drop_append, q, hAF, List.nil_append, List.drop_drop]
    exact congrArg (fun k => X.drop k) (by omega)
   rw [t0] at hrd
   rw [show (i + 1) * 2 = i * 2 + 2 by omega] at hrd ⊢
   refine copy_put (src := ⟨some ⟨g, i * 2 + 2, none⟩, s.n - (i + 1), s.c - (i + 1)⟩) (vs := X.drop (i * 2 + 2)) rkRange.ht szR hb7 (by dsimp only; rw [hYl, hn, nmin (by omega)]) (by rw [hYl]; omega) (.inr ⟨_, rfl, hrd⟩) hY1 ?_
   intro H8 p8
   have o8 := o7.put (n' := L.length) hp p8 (by simp only [List.length_append, List.length_drop, hAl]; omega) (by dsimp only; rw [hYl]; omega) (by simp only [List.length_append, List.length_drop, hAl]; omega) (by dsimp only; omega)
   have t1 : (X.take (i * 2) ++ F ++ X.drop (i * 2 + F.length)).take ((i + v.n) * 2) = X.take (i * 2) ++ F := List.take_left' (by rw [List.length_append, hAl]; omega)
   rw [t1] at o8
   have o8' := o8.pre (n := L.length - 1 + v.n) (by dsimp only; rw [hp]; simp) (by dsimp only; omega)
   have t2 : (X.take (i * 2) ++ F ++ X.drop (i * 2 + 2) ++ (X.take (i * 2) ++ F ++ X.drop (i * 2 + F.length)).drop ((i + v.n) * 2 + (X.drop (i * 2 + 2)).length)).take ((L.length - 1 + v.n) * 2) = X.take (i * 2) ++ F ++ X.drop (i * 2 + 2) := List.take_left' (by rw [List.length_append, List.length_append, hAl, hYl]; omega)
   rw [t2] at o8'
   dsimp only at o8'
   obtain ⟨cur8, hb8, hcs8, _, _⟩ := o8.block hp
   dsimp only at hcs8
   have m8 : Mods [g] H H8 := p7.mods.trans p8.mods
   refine ⟨_, rfl, by omega, by omega, ?_⟩
   obtain ⟨oo, hoo, hsl⟩ : ∃ oo, (L.length - 1 + v.n < s.c → oo = (L.length - 1 + v.n) * 2) ∧ slP (some (⟨g, 0, none⟩ : Addr)) s.c (L.length - 1 + v.n) 2 = some ⟨g, oo, none⟩ := by
    by_cases hlt : L.length - 1 + v.n < s.c
    ·exact ⟨_, fun _ => rfl, slP_some hlt⟩
    ·refine ⟨0, fun h => absurd h hlt, ?_⟩
     unfold slP
     rw [if_pos (by omega)]
   rw [hsl]
   have hfz : oo + (s.n - (L.length - 1 + v.n)) * 2 ≤ cur8.size := by
    by_cases hlt : L.length - 1 + v.n < s.c
    ·rw [hoo hlt, hcs8]; omega
    ·have : slP (some (⟨g, 0, none⟩ : Addr)) s.c (L.length - 1 + v.n) 2 = some ⟨g, 0, none⟩ := by unfold slP; rw [if_pos (by omega)]
     rw [this] at hsl
     simp only [Option.some.injEq, Addr.mk.injEq] at hsl
     omega
   refine clear_put (g := g) (o := oo) rkRange.ht rkRange.hi rkRange.hzs (zero_oneR _) hb8 hfz ?_
   intro H9 vs put hvl h0
   refine ⟨rfl, ⟨some ⟨g, 0, none⟩, L.length - 1 + v.n, s.c⟩, rfl, ?_, by rw [hp]; exact m8.trans put.mods⟩
   rw [hE, ← hp]
   by_cases hz : s.n - (L.length - 1 + v.n) = 0
   ·rw [h0 hz]; exact o8'
   ·refine o8'.behind put ?_ (fun cur' e' hc => ?_)
    ·rw [hoo (by omega), List.length_append, List.length_append, hAl, hYl]; omega
    ·rw [hb8] at hc
     simp only [Option.some.injEq, Obj.cells.injEq] at hc
     rw [← hc.1, hvl]
     exact hfz
  · -- two
   have hv2 : v.n = 2 := by omega
   obtain ⟨gv, hvp, hgv, hgvl⟩ : ∃ gv, v.p = some ⟨gv, 0, none⟩ ∧ gv ≠ g ∧ gv < H.size := by
    rcases hvs with h0 | h1
    ·rw [h0.2] at hFl; simp at hFl; omega
    ·exact h1
   obtain ⟨curv, hbv, hcsv, _, hncv⟩ := ov.block hvp
   refine ⟨by omega, by omega, ?_⟩
   rw [hp, slP_some (by omega)]
   rw [hvp]
   refine overlaps_spec H _ _ _ _ _ _ (by simpa using Ne.symm hgv) hb hbv (by rw [hcsv]; omega) ?_
   refine ⟨false, rfl, iteB_pos rfl ⟨by omega, by omega, by omega, by omega, ?_⟩⟩
   rw [slP_some (by omega)]
   have hrd := o.rdAt hp ((i + 1) * 2)
   rw [show (i + 1) * 2 = i * 2 + 2 by omega] at hrd ⊢
   refine copy_put (src := ⟨some ⟨g, i * 2 + 2, none⟩, s.n - (i + 1), s.c - (i + 1)⟩) (vs := X.drop (i * 2 + 2)) rkRange.ht szR hb (by dsimp only; rw [hYl, hn, nmin (by omega)]) (by rw [hYl]; omega) (.inr ⟨_, rfl, hrd⟩) hY1 ?_
   intro H11 p11
   have o11 := o.put (n' := L.length + 1) hp p11 (by omega) (by rw [hYl]; omega) (by rw [hYl]; omega) (by omega)
   have t1 : X.drop ((i + v.n) * 2 + (X.drop (i * 2 + 2)).length) = [] := List.drop_of_length_le (by omega)
   rw [t1, List.append_nil] at o11
   obtain ⟨cur11, hb11, hcs11, _, _⟩ := o11.block hp
   dsimp only at hcs11
   refine ⟨_, rfl, by omega, by omega, ?_⟩
   rw [slP_some (by omega), ← hvp]
   refine copy_put (vs := F) rkRange.ht szR hb11 (by rw [hFl, ← hm, nmin (by omega)]) (by omega) (rdV H11 (vmod H11 p11.mods)) hF1 ?_
   intro H12 p12
   have o12 := o11.put (n' := L.length + 1) hp p12 (by simp only [List.length_append, List.length_take]; omega) (by dsimp only; omega) (by simp only [List.length_append, List.length_take, List.length_drop]; omega) (by dsimp only; omega)
   have t2 : (X.take ((i + v.n) * 2) ++ X.drop (i * 2 + 2)).take (i * 2) = X.take (i * 2) := by
    rw [List.take_append_of_le_length (by rw [List.length_take]; omega), List.take_take, Nat.min_eq_left (by omega)]
   have t3 : (X.take ((i + v.n) * 2) ++ X.drop (i * 2 + 2)).drop (i * 2 + F.length) = X.drop (i * 2 + 2) := List.drop_left' (by rw [List.length_take]; omega)
   rw [t2, t3] at o12
   dsimp only at o12
   refine ⟨_, rfl, ⟨some ⟨g, 0, none⟩, L.length - 1 + v.n, s.c⟩, rfl, ?_, by rw [hp]; exact p11.mods.trans p12.mods⟩
   rw [hE, ← hp, show L.length - 1 + v.n = L.length + 1 by omega]
   exact o12

end Go.Proofs.YtigcheamheiopaaGreat
