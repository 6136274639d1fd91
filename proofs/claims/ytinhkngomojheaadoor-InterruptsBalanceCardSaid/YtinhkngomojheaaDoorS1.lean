/-
  slices.SortFunc on ranges, by the library's contract.
-/
import Derived.Test.YtinhkngomojheaaDoorP1
import Derived.Shelf.SlSortCmp.WholeK
import Derived.Shelf.SlSortCmp.NoneTotal
import Derived.Ground.SlsfProg
import Derived.WalkKit
namespace Go.Proofs.YtinhkngomojheaaDoor
section
open Go.Shelf Go.RowKit Go.Lib Go.Sort
set_option linter.unusedVariables false

def Tryd.sortRg_ren : Go.Shelf.Ren := ⟨fun | 6 => 51 | 15 => 28 | 14 => 59 | 28 => 35 | 29 => 36 | 20 => 66 | 21 => 67 | 22 => 68 | 23 => 69 | 24 => 70 | 25 => 71 | 26 => 72 | 27 => 73 | 46 => 76 | 47 => 77 | 48 => 78 | 49 => 79 | 50 => 80 | 57 => 82 | n => n, fun | 22 => 26 | 24 => 66 | 25 => 97 | 3 => 3 | 39 => 43 | 0 => 0 | 53 => 22 | 55 => 53 | 4 => 4 | 46 => 111 | 45 => 110 | 50 => 49 | 5 => 5 | 9 => 9 | 66 => 117 | 70 => 121 | 76 => 124 | 77 => 67 | n => n, fun | n => n⟩
theorem Tryd.sortRg : Go.Proofs.SlLaysF0.n6 Tryd.prog Tryd.sortRg_ren := {
  mixed := by kernel_rfl
  f6 := ⟨Tryd.f51.name, by decide, Tryd.func51.trans (congrArg some (by kernel_rfl))⟩
  f14 := ⟨Tryd.f59.name, by decide, Tryd.func59.trans (congrArg some (by kernel_rfl))⟩
  f15 := Tryd.func28.trans (congrArg some (by kernel_rfl))
  f20 := ⟨Tryd.f66.name, by decide, Tryd.func66.trans (congrArg some (by kernel_rfl))⟩
  f21 := ⟨Tryd.f67.name, by decide, Tryd.func67.trans (congrArg some (by kernel_rfl))⟩
  f22 := ⟨Tryd.f68.name, by decide, Tryd.func68.trans (congrArg some (by kernel_rfl))⟩
  f23 := ⟨Tryd.f69.name, by decide, Tryd.func69.trans (congrArg some (by kernel_rfl))⟩
  f24 := ⟨Tryd.f70.name, by decide, Tryd.func70.trans (congrArg some (by kernel_rfl))⟩
  f25 := ⟨Tryd.f71.name, by decide, Tryd.func71.trans (congrArg some (by kernel_rfl))⟩
  f26 := ⟨Tryd.f72.name, by decide, Tryd.func72.trans (congrArg some (by kernel_rfl))⟩
  f27 := ⟨Tryd.f73.name, by decide, Tryd.func73.trans (congrArg some (by kernel_rfl))⟩
  f28 := Tryd.func35.trans (congrArg some (by kernel_rfl))
  f29 := Tryd.func36.trans (congrArg some (by kernel_rfl))
  f46 := ⟨Tryd.f76.name, by decide, Tryd.func76.trans (congrArg some (by kernel_rfl))⟩
  f47 := Tryd.func77.trans (congrArg some (by kernel_rfl))
  f48 := Tryd.func78.trans (congrArg some (by kernel_rfl))
  f49 := ⟨Tryd.f79.name, by decide, Tryd.func79.trans (congrArg some (by kernel_rfl))⟩
  f50 := ⟨Tryd.f80.name, by decide, Tryd.func80.trans (congrArg some (by kernel_rfl))⟩
  f57 := ⟨Tryd.f82.name, by decide, Tryd.func82.trans (congrArg some (by kernel_rfl))⟩
  t0 := Tryd.underlying0
  a0 := Tryd.isAgg0
  z0 := Tryd.sizeOf0
  v0 := Tryd.zeroValue0
  t3 := Tryd.underlying3
  a3 := Tryd.isAgg3
  z3 := Tryd.sizeOf3
  v3 := Tryd.zeroValue3
  t4 := Tryd.underlying4
  a4 := Tryd.isAgg4
  z4 := Tryd.sizeOf4
  v4 := Tryd.zeroValue4
  t5 := Tryd.underlying5
  a5 := Tryd.isAgg5
  z5 := Tryd.sizeOf5
  v5 := Tryd.zeroValue5
  t9 := Tryd.underlying9
  a9 := Tryd.isAgg9
  z9 := Tryd.sizeOf9
  v9 := Tryd.zeroValue9
  t22 := Tryd.underlying26
  a22 := Tryd.isAgg26
  z22 := Tryd.sizeOf26
  v22 := Tryd.zeroValue26
  t25 := Tryd.underlying97
  a25 := Tryd.isAgg97
  z25 := Tryd.sizeOf97
  v25 := Tryd.zeroValue97
  t39 := Tryd.underlying43
  a39 := Tryd.isAgg43
  z39 := Tryd.sizeOf43
  v39 := Tryd.zeroValue43
  t45 := Tryd.underlying110
  a45 := Tryd.isAgg110
  z45 := Tryd.sizeOf110
  v45 := Tryd.zeroValue110
  t46 := Tryd.underlying111
  a46 := Tryd.isAgg111
  z46 := Tryd.sizeOf111
  v46 := Tryd.zeroValue111
  t50 := Tryd.underlying49
  a50 := Tryd.isAgg49
  z50 := Tryd.sizeOf49
  v50 := Tryd.zeroValue49
  t53 := Tryd.underlying22
  a53 := Tryd.isAgg22
  z53 := Tryd.sizeOf22
  v53 := Tryd.zeroValue22
  t55 := Tryd.underlying53
  a55 := Tryd.isAgg53
  z55 := Tryd.sizeOf53
  v55 := Tryd.zeroValue53
  t66 := Tryd.underlying117
  a66 := Tryd.isAgg117
  z66 := Tryd.sizeOf117
  v66 := Tryd.zeroValue117
  t70 := Tryd.underlying121
  a70 := Tryd.isAgg121
  z70 := Tryd.sizeOf121
  v70 := Tryd.zeroValue121
  t76 := Tryd.underlying124
  a76 := Tryd.isAgg124
  z76 := Tryd.sizeOf124
  v76 := Tryd.zeroValue124
  t77 := Tryd.underlying67
  a77 := Tryd.isAgg67
  z77 := Tryd.sizeOf67
  v77 := Tryd.zeroValue67 }

theorem walk_nan (x : Int) (W : World) : Calls Tryd.prog 60 #[.int .u64 x] W fun e w' => e = .returned (.bool false) ∧ w' = W := by
  go_enter Tryd.func60, Tryd.ntmps60
  go_wp2
  go_ret
  simp

set_option maxRecDepth 20000 in
theorem walk_cmp (x y : Int) (W : World) : Calls Tryd.prog 53 #[.int .u64 x, .int .u64 y] W fun e w' => e = .returned (.int .i64 (Lib.compareInt x y)) ∧ w' = W := by
  have h1 := fun W' => walk_nan x W'
  have h2 := fun W' => walk_nan y W'
  go_enter Tryd.func53, Tryd.ntmps53
  go_wp2_with (go_at_call 60; first | (refine (h1 _).mono ?_; rintro e w' ⟨rfl, rfl⟩) | (refine (h2 _).mono ?_; rintro e w' ⟨rfl, rfl⟩))
  all_goals (go_ret; refine ⟨?_, rfl⟩)
  · unfold Lib.compareInt; simp_all
  · unfold Lib.compareInt; simp_all
  · have e1 : Lib.compareInt x y = 0 := by unfold Lib.compareInt; rw [if_neg (by omega), if_neg (by omega)]
    rw [e1]; rfl

set_option maxHeartbeats 1000000 in
theorem walk_closure (x y : Rg) (W : World) : Calls Tryd.prog 52 #[.agg #[.int .u64 x.1, .int .u64 x.2], .agg #[.int .u64 y.1, .int .u64 y.2]] W fun e w' => e = .returned (.int .i64 (Lib.compareInt x.1 y.1)) ∧ ∃ q os', w' = grow (W.drewN q) os' := by
  have hcon := fun W' => walk_cmp x.1 y.1 W'
  generalize Lib.compareInt x.1 y.1 = r at hcon ⊢
  go_enter Tryd.func52, Tryd.ntmps52
  go_wp2_with (go_at_call 53; refine (hcon _).mono ?_; rintro e w' ⟨rfl, rfl⟩)
  go_ret
  exact ⟨rfl, 0, _, by rw [alloc_eq_grow, alloc_eq_grow, grow_grow]; rfl⟩

theorem ltBase (x y : Rg) : ltOf (fun x y : Rg => Lib.compareInt x.1 y.1) x y = decide (x.1 < y.1) := by
  unfold ltOf Lib.compareInt
  by_cases h1 : x.1 < y.1
  · simp [h1]
  · by_cases h2 : y.1 < x.1 <;> simp [h1, h2]

theorem swoBase : SWO (ltOf fun x y : Rg => Lib.compareInt x.1 y.1) := {
  irrefl := fun x => by rw [ltBase]; simp
  trans := fun x y z h1 h2 => by rw [ltBase] at *; simp at *; omega
  ntrans := fun x y z h1 h2 => by rw [ltBase] at *; simp at *; omega }

theorem flatK_eq (d : Array Rg) : (flatK encR 2 d).toList = d.toList.flatMap encR := by
  apply List.ext_getElem?
  intro t
  have hs := size_flatK encR 2 d
  by_cases ht : t < d.size * 2
  · have h2 : t / 2 < d.size := by omega
    have h3 : d.toList[t / 2]? = some d[t / 2]! := by
      rw [Array.getElem?_toList, Array.getElem?_eq_getElem h2, getElem!_pos d (t / 2) h2]
    have h4 : (encR d[t / 2]!)[t % 2]? = some ((encR d[t / 2]!)[t % 2]!) := by
      rcases (by omega : t % 2 = 0 ∨ t % 2 = 1) with e | e <;> rw [e] <;> rfl
    have h5 := Go.Eng.flat_get encR_len d.toList (t / 2) _ h3 (t % 2) _ h4
    rw [show t / 2 * 2 + t % 2 = t by omega] at h5
    rw [h5, ← get_flatK encR 2 d t ht, Array.getElem?_toList, Array.getElem?_eq_getElem (by omega), getElem!_pos _ t (by omega)]
  · have hl := Go.Eng.flat_len encR_len d.toList
    rw [List.getElem?_eq_none (by simp; omega), List.getElem?_eq_none (by rw [hl]; simp; omega)]

end
open Go.Eng Go.Shelf Go.RowKit Go.Lib Go.Sort
set_option linter.unusedVariables false

theorem sortRg_spec (H : Heap) (s : Sl) (l : List Rg) (lo : Nat) (o : Own lo t_api_Range 2 H s (l.flatMap encR)) (hl : l.length ≤ 100000) :
    CallsH Tryd.prog n_slices_SortFunc_sl_api_Range_api_Range #[.slice s.p s.n s.c, .func (.func n_allocate_merged_1) #[] #[]] H
      (fun v H' => v = .tuple #[] ∧ ∃ m : List Rg, m.Perm l ∧ Srt m ∧ Own lo t_api_Range 2 H' s (m.flatMap encR) ∧ Mods (blkOf s.p) H H') := by
  intro w hw
  have hn := Own.len rkRange o
  have hfl := flat_len encR_len l
  rcases o.cases.2 with ⟨rfl, hnil⟩ | ⟨g, cur, hp, hg, hb, hc, hcs, htk⟩
  · have hl0 : l = [] := List.eq_nil_of_length_eq_zero (by simpa using hn.symm)
    subst hl0
    refine (AnyF.slices_SortFunc_none { Tryd.sortRg with } none 0 _ w).mono ?_
    rintro e w' ⟨rfl, rfl⟩
    exact ⟨_, rfl, ⟨rfl, rfl, rfl⟩, rfl, [], .refl _, List.Pairwise.nil, hw ▸ Own.nil _ _ _ _, hw ▸ Mods.refl _ _⟩
  · subst hw
    have hblk : g < w.heap.size := get_lt hb
    have hmx : s.c ≤ maxLen := by
      obtain ⟨_, h2⟩ := o
      rcases h2 with ⟨h3, h4⟩ | ⟨g', cap, cur', h3, h4, h5, h6, h7, h8, h9⟩
      · simp only [Value.slice.injEq] at h3; rw [h3.2.2]; exact Nat.zero_le _
      · simp only [Value.slice.injEq] at h3; rw [h3.2.2]; exact h7
    have hH : HoldsK encR 2 w g 0 l.toArray := by
      intro j hj
      have e1 := flatK_eq l.toArray
      rw [size_flatK] at hj
      have hj2 : j < l.length * 2 := by simpa using hj
      have hcj : cur[j]? = some ((flatK encR 2 l.toArray)[j]!) := by
        have h1 : (cur.toList.take (s.n * 2))[j]? = cur[j]? := by
          rw [List.getElem?_take_of_lt (by omega), Array.getElem?_toList]
        rw [← h1, htk, ← e1, Array.getElem?_toList, Array.getElem?_eq_getElem (by rw [size_flatK]; simpa using hj2), getElem!_pos _ j (by rw [size_flatK]; simpa using hj2)]
      rw [Nat.zero_add]
      refine ⟨?_, ?_⟩
      · simp only [World.cell?, hb]
        simpa using hcj
      · simp [World.frozen?, hb]
    have eg : ∀ args w, (callFunc n_allocate_merged_1 args).run Tryd.prog w = .ok (.enter n_allocate_merged_1 args) w := enters_of Tryd.func52 (by kernel_rfl) rfl
    have hcon := AnyQ.slices_SortFunc Tryd.sortRg 2 Tryd.isAgg66 Tryd.sizeOf66 encR (fun _ => rfl) (fun x v hv => by simp [encR] at hv; rcases hv with rfl | rfl <;> rfl) (fun x y => Lib.compareInt x.1 y.1) swoBase n_allocate_merged_1 #[] g 0 s.c l.toArray w eg (fun _ _ _ _ x y => walk_closure x y _) hH hblk (by simp; omega)
    have hargs : (Value.slice (some ⟨g, 0, none⟩) l.toArray.size s.c) = .slice s.p s.n s.c := by rw [hp, hn]; simp
    rw [hargs] at hcon
    refine hcon.mono ?_
    rintro e w' ⟨rfl, d', n, os, ⟨hsz, _, hpm⟩, hsrt, rfl⟩
    have hd : d'.size = l.length := by simpa using hsz
    have hperm : d'.toList.Perm l := by
      have e1 : d'.extract 0 l.toArray.size = d' := by rw [← hsz]; simp
      have e2 : l.toArray.extract 0 l.toArray.size = l.toArray := by simp
      rw [e1, e2] at hpm
      simpa using hpm
    have hF := flatK_eq d'
    have hFs := size_flatK encR 2 d'
    have hheap : (sortWorldK encR 2 w g 0 n d' os).heap = w.heap.modify g (onCells (putCells id 0 (flatK encR 2 d'))) ++ os := rfl
    have hg' : (sortWorldK encR 2 w g 0 n d' os).heap[g]? = some (.cells (putCells id 0 (flatK encR 2 d') cur) t_api_Range (0, 0)) := by
      rw [hheap, Array.getElem?_append_left (by simpa using hblk), Array.getElem?_modify, if_pos rfl, hb]
      rfl
    refine ⟨_, rfl, ⟨rfl, rfl, rfl⟩, rfl, d'.toList, hperm, ?_, ?_, ?_⟩
    · refine List.pairwise_iff_getElem.2 (fun i j hi hj hij => ?_)
      have hi' : i < d'.size := by simpa using hi
      have hj' : j < d'.size := by simpa using hj
      have := hsrt i j (Nat.zero_le _) hij (by rw [← hsz]; exact hj')
      rw [ltBase] at this
      rw [getElem!_pos d' i hi', getElem!_pos d' j hj'] at this
      simp only [Array.getElem_toList]
      simpa using this
    · have hnl : s.n = d'.toList.length := by simp; omega
      refine ⟨?_, .inr ⟨g, s.c, putCells id 0 (flatK encR 2 d') cur, by rw [hp], hg, hg', hc, hmx, by simpa [putCells] using hcs, ?_⟩⟩
      · rw [flat_len encR_len, hnl]
      · rw [← hF]
        apply List.ext_getElem?
        intro t
        by_cases ht : t < s.n * 2
        · rw [List.getElem?_take_of_lt ht, Array.getElem?_toList, Array.getElem?_toList]
          have hc2 : t < cur.size := by
            rw [hcs]
            have := Nat.mul_le_mul_right 2 hc
            omega
          unfold putCells
          rw [Array.getElem?_mapIdx, Array.getElem?_eq_getElem hc2]
          have hfz : t < (flatK encR 2 d').size := by rw [hFs]; omega
          simp only [Option.map_some, Nat.zero_le, true_and, Nat.zero_add, hfz, if_true, id, Nat.sub_zero]
          rw [getElem!_pos _ t hfz, Array.getElem?_eq_getElem hfz]
        · rw [List.getElem?_eq_none (by simp; omega), List.getElem?_eq_none (by simp; omega)]
    · refine ⟨by rw [hheap]; simp, fun k hk hne => ?_⟩
      rw [hp] at hne
      have hne' : k ≠ g := by simpa [blkOf] using hne
      rw [hheap, Array.getElem?_append_left (by simpa using hk), Array.getElem?_modify, if_neg (Ne.symm hne')]

end Go.Proofs.YtinhkngomojheaaDoor
