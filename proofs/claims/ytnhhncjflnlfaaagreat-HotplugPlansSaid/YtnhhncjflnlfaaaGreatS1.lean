/-
 slices.SortFunc on ranges, by the library's contract.
-/
import Derived.Test.YtnhhncjflnlfaaaGreatP1
import Derived.Shelf.SlSortCmp.WholeK
import Derived.Shelf.SlSortCmp.NoneTotal
import Derived.Ground.SlsfProg
import Derived.WalkKit
namespace Go.Proofs.YtnhhncjflnlfaaaGreat
section
open Go.Shelf Go.RowKit Go.Lib Go.Sort
set_option linter.unusedVariables false

def Tryz.sortRg_ren : Go.Shelf.Ren := ⟨fun | 6 => 109 | 15 => 122 | 14 => 121 | 28 => 137 | 29 => 115 | 20 => 129 | 21 => 130 | 22 => 131 | 23 => 132 | 24 => 133 | 25 => 134 | 26 => 135 | 27 => 136 | 46 => 144 | 47 => 145 | 48 => 146 | 49 => 147 | 50 => 148 | 57 => 151 | n => n, fun | 22 => 23 | 24 => 95 | 25 => 166 | 3 => 3 | 39 => 70 | 0 => 0 | 53 => 112 | 55 => 30 | 4 => 4 | 46 => 182 | 45 => 181 | 50 => 98 | 5 => 5 | 9 => 9 | 66 => 194 | 70 => 198 | 76 => 201 | 77 => 202 | n => n, fun | n => n⟩
theorem Tryz.sortRg : Go.Proofs.SlLaysF0.n6 Tryz.prog Tryz.sortRg_ren := {
 mixed := by kernel_rfl
 f6 := ⟨Tryz.f109.name, by decide, Tryz.func109.trans (congrArg some (by kernel_rfl))⟩
 f14 := ⟨Tryz.f121.name, by decide, Tryz.func121.trans (congrArg some (by kernel_rfl))⟩
 f15 := Tryz.func122.trans (congrArg some (by kernel_rfl))
 f20 := ⟨Tryz.f129.name, by decide, Tryz.func129.trans (congrArg some (by kernel_rfl))⟩
 f21 := ⟨Tryz.f130.name, by decide, Tryz.func130.trans (congrArg some (by kernel_rfl))⟩
 f22 := ⟨Tryz.f131.name, by decide, Tryz.func131.trans (congrArg some (by kernel_rfl))⟩
 f23 := ⟨Tryz.f132.name, by decide, Tryz.func132.trans (congrArg some (by kernel_rfl))⟩
 f24 := ⟨Tryz.f133.name, by decide, Tryz.func133.trans (congrArg some (by kernel_rfl))⟩
 f25 := ⟨Tryz.f134.name, by decide, Tryz.func134.trans (congrArg some (by kernel_rfl))⟩
 f26 := ⟨Tryz.f135.name, by decide, Tryz.func135.trans (congrArg some (by kernel_rfl))⟩
 f27 := ⟨Tryz.f136.name, by decide, Tryz.func136.trans (congrArg some (by kernel_rfl))⟩
 f28 := Tryz.func137.trans (congrArg some (by kernel_rfl))
 f29 := Tryz.func115.trans (congrArg some (by kernel_rfl))
 f46 := ⟨Tryz.f144.name, by decide, Tryz.func144.trans (congrArg some (by kernel_rfl))⟩
 f47 := Tryz.func145.trans (congrArg some (by kernel_rfl))
 f48 := Tryz.func146.trans (congrArg some (by kernel_rfl))
 f49 := ⟨Tryz.f147.name, by decide, Tryz.func147.trans (congrArg some (by kernel_rfl))⟩
 f50 := ⟨Tryz.f148.name, by decide, Tryz.func148.trans (congrArg some (by kernel_rfl))⟩
 f57 := ⟨Tryz.f151.name, by decide, Tryz.func151.trans (congrArg some (by kernel_rfl))⟩
 t0 := Tryz.underlying0
 a0 := Tryz.isAgg0
 z0 := Tryz.sizeOf0
 v0 := Tryz.zeroValue0
 t3 := Tryz.underlying3
 a3 := Tryz.isAgg3
 z3 := Tryz.sizeOf3
 v3 := Tryz.zeroValue3
 t4 := Tryz.underlying4
 a4 := Tryz.isAgg4
 z4 := Tryz.sizeOf4
 v4 := Tryz.zeroValue4
 t5 := Tryz.underlying5
 a5 := Tryz.isAgg5
 z5 := Tryz.sizeOf5
 v5 := Tryz.zeroValue5
 t9 := Tryz.underlying9
 a9 := Tryz.isAgg9
 z9 := Tryz.sizeOf9
 v9 := Tryz.zeroValue9
 t22 := Tryz.underlying23
 a22 := Tryz.isAgg23
 z22 := Tryz.sizeOf23
 v22 := Tryz.zeroValue23
 t25 := Tryz.underlying166
 a25 := Tryz.isAgg166
 z25 := Tryz.sizeOf166
 v25 := Tryz.zeroValue166
 t39 := Tryz.underlying70
 a39 := Tryz.isAgg70
 z39 := Tryz.sizeOf70
 v39 := Tryz.zeroValue70
 t45 := Tryz.underlying181
 a45 := Tryz.isAgg181
 z45 := Tryz.sizeOf181
 v45 := Tryz.zeroValue181
 t46 := Tryz.underlying182
 a46 := Tryz.isAgg182
 z46 := Tryz.sizeOf182
 v46 := Tryz.zeroValue182
 t50 := Tryz.underlying98
 a50 := Tryz.isAgg98
 z50 := Tryz.sizeOf98
 v50 := Tryz.zeroValue98
 t53 := Tryz.underlying112
 a53 := Tryz.isAgg112
 z53 := Tryz.sizeOf112
 v53 := Tryz.zeroValue112
 t55 := Tryz.underlying30
 a55 := Tryz.isAgg30
 z55 := Tryz.sizeOf30
 v55 := Tryz.zeroValue30
 t66 := Tryz.underlying194
 a66 := Tryz.isAgg194
 z66 := Tryz.sizeOf194
 v66 := Tryz.zeroValue194
 t70 := Tryz.underlying198
 a70 := Tryz.isAgg198
 z70 := Tryz.sizeOf198
 v70 := Tryz.zeroValue198
 t76 := Tryz.underlying201
 a76 := Tryz.isAgg201
 z76 := Tryz.sizeOf201
 v76 := Tryz.zeroValue201
 t77 := Tryz.underlying202
 a77 := Tryz.isAgg202
 z77 := Tryz.sizeOf202
 v77 := Tryz.zeroValue202 }

theorem walk_nan (x : Int) (W : World) : Calls Tryz.prog 123 #[.int .u64 x] W fun e w' => e = .returned (.bool false) /\ w' = W := by
 go_enter Tryz.func123, Tryz.ntmps123
 go_wp2
 go_ret
 simp

set_option maxRecDepth 20000 in
theorem walk_cmp (x y : Int) (W : World) : Calls Tryz.prog 111 #[.int .u64 x, .int .u64 y] W fun e w' => e = .returned (.int .i64 (Lib.compareInt x y)) /\ w' = W := by
 have h1 := fun W' => walk_nan x W'
 have h2 := fun W' => walk_nan y W'
 go_enter Tryz.func111, Tryz.ntmps111
 go_wp2_with (go_at_call 123; first | (refine (h1 _).mono ?_; rintro e w' ⟨rfl, rfl⟩) | (refine (h2 _).mono ?_; rintro e w' ⟨rfl, rfl⟩))
 all_goals (go_ret; refine ⟨?_, rfl⟩)
 ·unfold Lib.compareInt; simp_all
 ·unfold Lib.compareInt; simp_all
 ·have e1 : Lib.compareInt x y = 0 := by unfold Lib.compareInt; rw [if_neg (by omega), if_neg (by omega)]
  rw [e1]; rfl

set_option maxHeartbeats 1000000 in
theorem walk_closure (x y : Rg) (W : World) : Calls Tryz.prog 110 #[.agg #[.int .u64 x.1, .int .u64 x.2], .agg #[.int .u64 y.1, .int .u64 y.2]] W fun e w' => e = .returned (.int .i64 (Lib.compareInt x.1 y.1)) /\ ∃ q os', w' = grow (W.drewN q) os' := by
 have hcon := fun W' => walk_cmp x.1 y.1 W'
 generalize Lib.compareInt x.1 y.1 = r at hcon ⊢
 go_enter Tryz.func110, Tryz.ntmps110
 go_wp2_with (go_at_call 111; refine (hcon _).mono ?_; rintro e w' ⟨rfl, rfl⟩)
 go_ret
 exact ⟨rfl, 0, _, by rw [alloc_eq_grow, alloc_eq_grow, grow_grow]; rfl⟩

theorem ltBase (x y : Rg) : ltOf (fun x y : Rg => Lib.compareInt x.1 y.1) x y = decide (x.1 < y.1) := by
 unfold ltOf Lib.compareInt
 by_cases h1 : x.1 < y.1
 ·simp [h1]
 ·by_cases h2 : y.1 < x.1 <;> simp [h1, h2]

theorem swoBase : SWO (ltOf fun x y : Rg => Lib.compareInt x.1 y.1) := {
 irrefl := fun x => by rw [ltBase]; simp
 trans := fun x y z h1 h2 => by rw [ltBase] at *; simp at *; omega
 ntrans := fun x y z h1 h2 => by rw [ltBase] at *; simp at *; omega }

theorem flatK_eq (d : Array Rg) : (flatK encR 2 d).toList = d.toList.flatMap encR := by
 apply List.ext_getElem?
 intro t
 have hs := size_flatK encR 2 d
 by_cases ht : t < d.size * 2
 ·have h2 : t / 2 < d.size := by omega
  have h3 : d.toList[t / 2]? = some d[t / 2]! := by
   rw [Array.getElem?_toList, Array.getElem?_eq_getElem h2, getElem!_pos d (t / 2) h2]
  have h4 : (encR d[t / 2]!)[t % 2]? = some ((encR d[t / 2]!)[t % 2]!) := by
   rcases (by omega : t % 2 = 0 \/ t % 2 = 1) with e | e <;> rw [e] <;> rfl
  have h5 := Go.Eng.flat_get encR_len d.toList (t / 2) _ h3 (t % 2) _ h4
  rw [show t / 2 * 2 + t % 2 = t by omega] at h5
  rw [h5, <- get_flatK encR 2 d t ht, Array.getElem?_toList, Array.getElem?_eq_getElem (by omega), getElem!_pos _ t (by omega)]
 ·have hl := Go.Eng.flat_len encR_len d.toList
  rw [List.getElem?_eq_none (by simp; omega), List.getElem?_eq_none (by rw [hl]; simp; omega)]

end
open Go.Eng Go.Shelf Go.RowKit Go.Lib Go.Sort
set_option linter.unusedVariables false

theorem sortRg_spec (H : Heap) (s : Sl) (l : List Rg) (lo : Nat) (o : Own lo t_95 2 H s (l.flatMap encR)) (hl : l.length <= 100000) :
  CallsH Tryz.prog n_109 #[.slice s.p s.n s.c, .func (.func n_110) #[] #[]] H
   (fun v H' => v = .tuple #[] /\ ∃ m : List Rg, m.Perm l /\ Srt m /\ Own lo t_95 2 H' s (m.flatMap encR) /\ Mods (blkOf s.p) H H') := by
 intro w hw
 have hn := Own.len rkRange o
 have hfl := flat_len encR_len l
 rcases o.cases.2 with ⟨rfl, hnil⟩ | ⟨g, cur, hp, hg, hb, hc, hcs, htk⟩
 ·have hl0 : l = [] := List.eq_nil_of_length_eq_zero (by simpa using hn.symm)
  subst hl0
  refine (AnyF.slices_SortFunc_none { Tryz.sortRg with } none 0 _ w).mono ?_
  rintro e w' ⟨rfl, rfl⟩
  exact ⟨_, rfl, ⟨rfl, rfl, rfl⟩, rfl, [], .refl _, List.Pairwise.nil, hw ▸ Own.nil _ _ _ _, hw ▸ Mods.refl _ _⟩
 ·subst hw
  have hblk : g < w.heap.size := get_lt hb
  have hmx : s.c <= maxLen := by
   obtain ⟨_, h2⟩ := o
   rcases h2 with ⟨h3, h4⟩ | ⟨g', cap, cur', h3, h4, h5, h6, h7, h8, h9⟩
   ·simp only [Value.slice.injEq] at h3; rw [h3.2.2]; exact Nat.zero_le _
   ·simp only [Value.slice.injEq] at h3; rw [h3.2.2]; exact h7
  have hH : HoldsK encR 2 w g 0 l.toArray := by
   intro j hj
   have e1 := flatK_eq l.toArray
   rw [size_flatK] at hj
   have hj2 : j < l.length * 2 := by simpa using hj
   have hcj : cur[j]? = some ((flatK encR 2 l.toArray)[j]!) := by
    have h1 : (cur.toList.take (s.n * 2))[j]? = cur[j]? := by
     rw [List.getElem?_take_of_lt (by omega), Array.getElem?_toList]
    rw [<- h1, htk, <- e1, Array.getElem?_toList, Array.getElem?_eq_getElem (by rw [size_flatK]; simpa using hj2), getElem!_pos _ j (by rw [size_flatK]; simpa using hj2)]
   rw [Nat.zero_add]
   refine ⟨?_, ?_⟩
   ·simp only [World.cell?, hb]
    simpa using hcj
   ·simp [World.frozen?, hb]
  have eg : ∀ args w, (callFunc n_110 args).run Tryz.prog w = .ok (.enter n_110 args) w := enters_of Tryz.func110 (by kernel_rfl) rfl
  have hcon := AnyQ.slices_SortFunc Tryz.sortRg 2 Tryz.isAgg95 Tryz.sizeOf95 encR (fun _ => rfl) (fun x v hv => by simp [encR] at hv; rcases hv with rfl | rfl <;> rfl) (fun x y => Lib.compareInt x.1 y.1) swoBase n_110 #[] g 0 s.c l.toArray w eg (fun _ _ _ _ x y => walk_closure x y _) hH hblk (by simp; omega)
  have hargs : (Value.slice (some ⟨g, 0, none⟩) l.toArray.size s.c) = .slice s.p s.n s.c := by rw [hp, hn]; simp
  rw [hargs] at hcon
  refine hcon.mono ?_
  rintro e w' ⟨rfl, d', n, os, ⟨hsz, _, hpm⟩, hsrt, rfl⟩
  have hd : d'.size = l.length := by simpa using hsz
  have hperm : d'.toList.Perm l := by
   have e1 : d'.extract 0 l.toArray.size = d' := by rw [<- hsz]; simp
   have e2 : l.toArray.extract 0 l.toArray.size = l.toArray := by simp
   rw [e1, e2] at hpm
   simpa using hpm
  have hF := flatK_eq d'
  have hFs := size_flatK encR 2 d'
  have hheap : (sortWorldK encR 2 w g 0 n d' os).heap = w.heap.modify g (onCells (putCells id 0 (flatK encR 2 d'))) ++ os := rfl
  have hg' : (sortWorldK encR 2 w g 0 n d' os).heap[g]? = some (.cells (putCells id 0 (flatK encR 2 d') cur) t_95 (0, 0)) := by
   rw [hheap, Array.getElem?_append_left (by simpa using hblk), Array.getElem?_modify, if_pos rfl, hb]
   rfl
  refine ⟨_, rfl, ⟨rfl, rfl, rfl⟩, rfl, d'.toList, hperm, ?_, ?_, ?_⟩
  ·refine List.pairwise_iff_getElem.2 (fun i j hi hj hij => ?_)
   have hi' : i < d'.size := by simpa using hi
   have hj' : j < d'.size := by simpa using hj
   have := hsrt i j (Nat.zero_le _) hij (by rw [<- hsz]; exact hj')
   rw [ltBase] at this
   rw [getElem!_pos d' i hi', getElem!_pos d' j hj'] at this
   simp only [Array.getElem_toList]
   simpa using this
  ·have hnl : s.n = d'.toList.length := by simp; omega
   refine ⟨?_, .inr ⟨g, s.c, putCells id 0 (flatK encR 2 d') cur, by rw [hp], hg, hg', hc, hmx, by simpa [putCells] using hcs, ?_⟩⟩
   ·rw [flat_len encR_len, hnl]
   ·rw [<- hF]
    apply List.ext_getElem?
    intro t
    by_cases ht : t < s.n * 2
    ·rw [List.getElem?_take_of_lt ht, Array.getElem?_toList, Array.getElem?_toList]
     have hc2 : t < cur.size := by
      rw [hcs]
      have := Nat.mul_le_mul_right 2 hc
      omega
     unfold putCells
     rw [Array.getElem?_mapIdx, Array.getElem?_eq_getElem hc2]
     have hfz : t < (flatK encR 2 d').size := by rw [hFs]; omega
     simp only [Option.map_some, Nat.zero_le, true_and, Nat.zero_add, hfz, if_true, id, Nat.sub_zero]
     rw [getElem!_pos _ t hfz, Array.getElem?_eq_getElem hfz]
    ·rw [List.getElem?_eq_none (by simp; omega), List.getElem?_eq_none (by simp; omega)]
  ·refine ⟨by rw [hheap]; simp, fun k hk hne => ?_⟩
   rw [hp] at hne
   have hne' : k ≠ g := by simpa [blkOf] using hne
   rw [hheap, Array.getElem?_append_left (by simpa using hk), Array.getElem?_modify, if_neg (Ne.symm hne')]

end Go.Proofs.YtnhhncjflnlfaaaGreat
