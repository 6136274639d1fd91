/-
  slices.SortFunc on ranges, by the library's contract.
-/
import Derived.Test.YtinhkngomojheaaP1
import Derived.Shelf.SlSortCmp.WholeK
import Derived.Shelf.SlSortCmp.NoneTotal
import Derived.Ground.SlsfProg
import Derived.WalkKit
namespace Go.Proofs.Ytinhkngomojheaa
section
open Go.Shelf Go.RowKit Go.Lib Go.Sort
set_option linter.unusedVariables false

def Try.sortRg_ren : Go.Shelf.Ren := ⟨fun | 6 => 52 | 15 => 17 | 14 => 63 | 28 => 28 | 29 => 29 | 20 => 70 | 21 => 71 | 22 => 72 | 23 => 73 | 24 => 74 | 25 => 75 | 26 => 76 | 27 => 77 | 46 => 80 | 47 => 81 | 48 => 82 | 49 => 83 | 50 => 84 | 57 => 86 | n => n, fun | 22 => 40 | 24 => 54 | 25 => 97 | 3 => 3 | 39 => 52 | 0 => 0 | 53 => 68 | 55 => 24 | 4 => 4 | 46 => 112 | 45 => 111 | 50 => 47 | 5 => 5 | 9 => 9 | 66 => 118 | 70 => 122 | 76 => 125 | 77 => 62 | n => n, fun | n => n⟩
theorem Try.sortRg : Go.Proofs.SlLaysF0.n6 Try.prog Try.sortRg_ren := {
  mixed := by kernel_rfl
  f6 := ⟨Try.f52.name, by decide, Try.func52.trans (congrArg some (by kernel_rfl))⟩
  f14 := ⟨Try.f63.name, by decide, Try.func63.trans (congrArg some (by kernel_rfl))⟩
  f15 := Try.func17.trans (congrArg some (by kernel_rfl))
  f20 := ⟨Try.f70.name, by decide, Try.func70.trans (congrArg some (by kernel_rfl))⟩
  f21 := ⟨Try.f71.name, by decide, Try.func71.trans (congrArg some (by kernel_rfl))⟩
  f22 := ⟨Try.f72.name, by decide, Try.func72.trans (congrArg some (by kernel_rfl))⟩
  f23 := ⟨Try.f73.name, by decide, Try.func73.trans (congrArg some (by kernel_rfl))⟩
  f24 := ⟨Try.f74.name, by decide, Try.func74.trans (congrArg some (by kernel_rfl))⟩
  f25 := ⟨Try.f75.name, by decide, Try.func75.trans (congrArg some (by kernel_rfl))⟩
  f26 := ⟨Try.f76.name, by decide, Try.func76.trans (congrArg some (by kernel_rfl))⟩
  f27 := ⟨Try.f77.name, by decide, Try.func77.trans (congrArg some (by kernel_rfl))⟩
  f28 := Try.func28.trans (congrArg some (by kernel_rfl))
  f29 := Try.func29.trans (congrArg some (by kernel_rfl))
  f46 := ⟨Try.f80.name, by decide, Try.func80.trans (congrArg some (by kernel_rfl))⟩
  f47 := Try.func81.trans (congrArg some (by kernel_rfl))
  f48 := Try.func82.trans (congrArg some (by kernel_rfl))
  f49 := ⟨Try.f83.name, by decide, Try.func83.trans (congrArg some (by kernel_rfl))⟩
  f50 := ⟨Try.f84.name, by decide, Try.func84.trans (congrArg some (by kernel_rfl))⟩
  f57 := ⟨Try.f86.name, by decide, Try.func86.trans (congrArg some (by kernel_rfl))⟩
  t0 := Try.underlying0
  a0 := Try.isAgg0
  z0 := Try.sizeOf0
  v0 := Try.zeroValue0
  t3 := Try.underlying3
  a3 := Try.isAgg3
  z3 := Try.sizeOf3
  v3 := Try.zeroValue3
  t4 := Try.underlying4
  a4 := Try.isAgg4
  z4 := Try.sizeOf4
  v4 := Try.zeroValue4
  t5 := Try.underlying5
  a5 := Try.isAgg5
  z5 := Try.sizeOf5
  v5 := Try.zeroValue5
  t9 := Try.underlying9
  a9 := Try.isAgg9
  z9 := Try.sizeOf9
  v9 := Try.zeroValue9
  t22 := Try.underlying40
  a22 := Try.isAgg40
  z22 := Try.sizeOf40
  v22 := Try.zeroValue40
  t25 := Try.underlying97
  a25 := Try.isAgg97
  z25 := Try.sizeOf97
  v25 := Try.zeroValue97
  t39 := Try.underlying52
  a39 := Try.isAgg52
  z39 := Try.sizeOf52
  v39 := Try.zeroValue52
  t45 := Try.underlying111
  a45 := Try.isAgg111
  z45 := Try.sizeOf111
  v45 := Try.zeroValue111
  t46 := Try.underlying112
  a46 := Try.isAgg112
  z46 := Try.sizeOf112
  v46 := Try.zeroValue112
  t50 := Try.underlying47
  a50 := Try.isAgg47
  z50 := Try.sizeOf47
  v50 := Try.zeroValue47
  t53 := Try.underlying68
  a53 := Try.isAgg68
  z53 := Try.sizeOf68
  v53 := Try.zeroValue68
  t55 := Try.underlying24
  a55 := Try.isAgg24
  z55 := Try.sizeOf24
  v55 := Try.zeroValue24
  t66 := Try.underlying118
  a66 := Try.isAgg118
  z66 := Try.sizeOf118
  v66 := Try.zeroValue118
  t70 := Try.underlying122
  a70 := Try.isAgg122
  z70 := Try.sizeOf122
  v70 := Try.zeroValue122
  t76 := Try.underlying125
  a76 := Try.isAgg125
  z76 := Try.sizeOf125
  v76 := Try.zeroValue125
  t77 := Try.underlying62
  a77 := Try.isAgg62
  z77 := Try.sizeOf62
  v77 := Try.zeroValue62 }

theorem walk_nan (x : Int) (W : World) : Calls Try.prog 64 #[.int .u64 x] W fun e w' => e = .returned (.bool false) ∧ w' = W := by
  go_enter Try.func64, Try.ntmps64
  go_wp2
  go_ret
  simp

theorem walk_cmp (x y : Int) (W : World) : Calls Try.prog 54 #[.int .u64 x, .int .u64 y] W fun e w' => e = .returned (.int .i64 (Lib.compareInt x y)) ∧ w' = W := by
  have h1 := fun W' => walk_nan x W'
  have h2 := fun W' => walk_nan y W'
  go_enter Try.func54, Try.ntmps54
  go_wp2_with (go_at_call 64; first | (refine (h1 _).mono ?_; rintro e w' ⟨rfl, rfl⟩) | (refine (h2 _).mono ?_; rintro e w' ⟨rfl, rfl⟩))
  all_goals (go_ret; refine ⟨?_, rfl⟩)
  · unfold Lib.compareInt; simp_all
  · unfold Lib.compareInt; simp_all
  · have e1 : Lib.compareInt x y = 0 := by unfold Lib.compareInt; rw [if_neg (by omega), if_neg (by omega)]
    rw [e1]; rfl

set_option maxHeartbeats 1000000 in
theorem walk_closure (x y : Rg) (W : World) : Calls Try.prog 53 #[.agg #[.int .u64 x.1, .int .u64 x.2], .agg #[.int .u64 y.1, .int .u64 y.2]] W fun e w' => e = .returned (.int .i64 (Lib.compareInt x.1 y.1)) ∧ ∃ q os', w' = grow (W.drewN q) os' := by
  have hcon := fun W' => walk_cmp x.1 y.1 W'
  generalize Lib.compareInt x.1 y.1 = r at hcon ⊢
  go_enter Try.func53, Try.ntmps53
  go_wp2_with (go_at_call 54; refine (hcon _).mono ?_; rintro e w' ⟨rfl, rfl⟩)
  go_ret
  exact ⟨rfl, 0, _, by rw [alloc_eq_grow, alloc_eq_grow, grow_grow]; rfl⟩

theorem ltBase (x y : Rg) : ltOf (fun x y : Rg => Lib.compareInt x.1 y.1) x y = decide (x.1 < y.1) := by
  unfold ltOf Lib.compareInt
  by_cases h1 : x.1 < y.1
  · simp [h1]
  · by_cases h2 : y.1 < x.1 <;> simp [h1, h2]

theorem swoBase : SWO (ltOf fun x y : Rg => Lib.compareInt x.1 y.1) := {
  irrefl := fun x => by rw [ltBase]; simp
  trans := fun x y z h1 h2 => by rw [ltBase] at *; simp at *; omega
  ntrans := fun x y z h1 h2 => by rw [ltBase] at *; simp at *; omega }

theorem flatK_eq (d : Array Rg) : (flatK encR 2 d).toList = d.toList.flatMap encR := by
  apply List.ext_getElem?
  intro t
  have hs := size_flatK encR 2 d
  by_cases ht : t < d.size * 2
  · have h2 : t / 2 < d.size := by omega
    have h3 : d.toList[t / 2]? = some d[t / 2]! := by
      rw [Array.getElem?_toList, Array.getElem?_eq_getElem h2, getElem!_pos d (t / 2) h2]
    have h4 : (encR d[t / 2]!)[t % 2]? = some ((encR d[t / 2]!)[t % 2]!) := by
      rcases (by omega : t % 2 = 0 ∨ t % 2 = 1) with e | e <;> rw [e] <;> rfl
    have h5 := Go.Eng.flat_get encR_len d.toList (t / 2) _ h3 (t % 2) _ h4
    rw [show t / 2 * 2 + t % 2 = t by omega] at h5
    rw [h5, ← get_flatK encR 2 d t ht, Array.getElem?_toList, Array.getElem?_eq_getElem (by omega), getElem!_pos _ t (by omega)]
  · have hl := Go.Eng.flat_len encR_len d.toList
    rw [List.getElem?_eq_none (by simp; omega), List.getElem?_eq_none (by rw [hl]; simp; omega)]

end
open Go.Eng Go.Shelf Go.RowKit Go.Lib Go.Sort
set_option linter.unusedVariables false

theorem sortRg_spec (H : Heap) (s : Sl) (l : List Rg) (lo : Nat) (o : Own lo t_api_Range 2 H s (l.flatMap encR)) (hl : l.length ≤ 100000) :
    CallsH Try.prog n_slices_SortFunc_sl_api_Range_api_Range #[.slice s.p s.n s.c, .func (.func n_allocate_merged_1) #[] #[]] H
      (fun v H' => v = .tuple #[] ∧ ∃ m : List Rg, m.Perm l ∧ Srt m ∧ Own lo t_api_Range 2 H' s (m.flatMap encR) ∧ Mods (blkOf s.p) H H') := by
  intro w hw
  have hn := Own.len rkRange o
  have hfl := flat_len encR_len l
  rcases o.cases.2 with ⟨rfl, hnil⟩ | ⟨g, cur, hp, hg, hb, hc, hcs, htk⟩
  · have hl0 : l = [] := List.eq_nil_of_length_eq_zero (by simpa using hn.symm)
    subst hl0
    refine (AnyF.slices_SortFunc_none { Try.sortRg with } none 0 _ w).mono ?_
    rintro e w' ⟨rfl, rfl⟩
    exact ⟨_, rfl, ⟨rfl, rfl, rfl⟩, rfl, [], .refl _, List.Pairwise.nil, hw ▸ Own.nil _ _ _ _, hw ▸ Mods.refl _ _⟩
  · subst hw
    have hblk : g < w.heap.size := get_lt hb
    have hmx : s.c ≤ maxLen := by
      obtain ⟨_, h2⟩ := o
      rcases h2 with ⟨h3, h4⟩ | ⟨g', cap, cur', h3, h4, h5, h6, h7, h8, h9⟩
      · simp only [Value.slice.injEq] at h3; rw [h3.2.2]; exact Nat.zero_le _
      · simp only [Value.slice.injEq] at h3; rw [h3.2.2]; exact h7
    have hH : HoldsK encR 2 w g 0 l.toArray := by
      intro j hj
      have e1 := flatK_eq l.toArray
      rw [size_flatK] at hj
      have hj2 : j < l.length * 2 := by simpa using hj
      have hcj : cur[j]? = some ((flatK encR 2 l.toArray)[j]!) := by
        have h1 : (cur.toList.take (s.n * 2))[j]? = cur[j]? := by
          rw [List.getElem?_take_of_lt (by omega), Array.getElem?_toList]
        rw [← h1, htk, ← e1, Array.getElem?_toList, Array.getElem?_eq_getElem (by rw [size_flatK]; simpa using hj2), getElem!_pos _ j (by rw [size_flatK]; simpa using hj2)]
      rw [Nat.zero_add]
      refine ⟨?_, ?_⟩
      · simp only [World.cell?, hb]
        simpa using hcj
      · simp [World.frozen?, hb]
    have eg : ∀ args w, (callFunc n_allocate_merged_1 args).run Try.prog w = .ok (.enter n_allocate_merged_1 args) w := enters_of Try.func53 (by kernel_rfl) rfl
    have hcon := AnyQ.slices_SortFunc Try.sortRg 2 Try.isAgg54 Try.sizeOf54 encR (fun _ => rfl) (fun x v hv => by simp [encR] at hv; rcases hv with rfl | rfl <;> rfl) (fun x y => Lib.compareInt x.1 y.1) swoBase n_allocate_merged_1 #[] g 0 s.c l.toArray w eg (fun _ _ _ _ x y => walk_closure x y _) hH hblk (by simp; omega)
    have hargs : (Value.slice (some ⟨g, 0, none⟩) l.toArray.size s.c) = .slice s.p s.n s.c := by rw [hp, hn]; simp
    rw [hargs] at hcon
    refine hcon.mono ?_
    rintro e w' ⟨rfl, d', n, os, ⟨hsz, _, hpm⟩, hsrt, rfl⟩
    have hd : d'.size = l.length := by simpa using hsz
    have hperm : d'.toList.Perm l := by
      have e1 : d'.extract 0 l.toArray.size = d' := by rw [← hsz]; simp
      have e2 : l.toArray.extract 0 l.toArray.size = l.toArray := by simp
      rw [e1, e2] at hpm
      simpa using hpm
    have hF := flatK_eq d'
    have hFs := size_flatK encR 2 d'
    have hheap : (sortWorldK encR 2 w g 0 n d' os).heap = w.heap.modify g (onCells (putCells id 0 (flatK encR 2 d'))) ++ os := rfl
    have hg' : (sortWorldK encR 2 w g 0 n d' os).heap[g]? = some (.cells (putCells id 0 (flatK encR 2 d') cur) t_api_Range (0, 0)) := by
      rw [hheap, Array.getElem?_append_left (by simpa using hblk), Array.getElem?_modify, if_pos rfl, hb]
      rfl
    refine ⟨_, rfl, ⟨rfl, rfl, rfl⟩, rfl, d'.toList, hperm, ?_, ?_, ?_⟩
    · refine List.pairwise_iff_getElem.2 (fun i j hi hj hij => ?_)
      have hi' : i < d'.size := by simpa using hi
      have hj' : j < d'.size := by simpa using hj
      have := hsrt i j (Nat.zero_le _) hij (by rw [← hsz]; exact hj')
      rw [ltBase] at this
      rw [getElem!_pos d' i hi', getElem!_pos d' j hj'] at this
      simp only [Array.getElem_toList]
      simpa using this
    · have hnl : s.n = d'.toList.length := by simp; omega
      refine ⟨?_, .inr ⟨g, s.c, putCells id 0 (flatK encR 2 d') cur, by rw [hp], hg, hg', hc, hmx, by simpa [putCells] using hcs, ?_⟩⟩
      · rw [flat_len encR_len, hnl]
      · rw [← hF]
        apply List.ext_getElem?
        intro t
        by_cases ht : t < s.n * 2
        · rw [List.getElem?_take_of_lt ht, Array.getElem?_toList, Array.getElem?_toList]
          have hc2 : t < cur.size := by
            rw [hcs]
            have := Nat.mul_le_mul_right 2 hc
            omega
          unfold putCells
          rw [Array.getElem?_mapIdx, Array.getElem?_eq_getElem hc2]
          have hfz : t < (flatK encR 2 d').size := by rw [hFs]; omega
          simp only [Option.map_some, Nat.zero_le, true_and, Nat.zero_add, hfz, if_true, id, Nat.sub_zero]
          rw [getElem!_pos _ t hfz, Array.getElem?_eq_getElem hfz]
        · rw [List.getElem?_eq_none (by simp; omega), List.getElem?_eq_none (by simp; omega)]
    · refine ⟨by rw [hheap]; simp, fun k hk hne => ?_⟩
      rw [hp] at hne
      have hne' : k ≠ g := by simpa [blkOf] using hne
      rw [hheap, Array.getElem?_append_left (by simpa using hk), Array.getElem?_modify, if_neg (Ne.symm hne')]

end Go.Proofs.Ytinhkngomojheaa
