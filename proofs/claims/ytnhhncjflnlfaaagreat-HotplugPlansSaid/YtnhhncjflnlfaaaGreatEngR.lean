/-
 The engine, part 11: cells of a slice of one's own: copy into its midst, clear, append of zeros, slices.overlaps.
-/
import Derived.Lib.AppendZeros
import Derived.Lib.Overlaps
import Derived.Test.YtnhhncjflnlfaaaGreatEngQ
namespace Go.Eng
set_option linter.unusedVariables false

structure Put (H : Heap) (g o : Nat) (vs : List Value) (H' : Heap) : Prop where
 size : H'.size = H.size
 other : ∀ k, k ≠ g -> H'[k]? = H[k]?
 same : ∀ cur e, H[g]? = some (.cells cur e (0, 0)) -> H'[g]? = some (.cells (cur.toList.take o ++ vs ++ cur.toList.drop (o + vs.length)).toArray e (0, 0))

theorem Put.mods {H H' : Heap} {g o : Nat} {vs : List Value} (h : Put H g o vs H') : Mods [g] H H' := ⟨by rw [h.size]; exact Nat.le_refl _, fun k _ hk => h.other k (by simpa using hk)⟩
theorem Put.nil (H : Heap) (g o : Nat) : Put H g o [] H := ⟨rfl, fun _ _ => rfl, fun cur e h => by rw [h]; simp⟩

theorem splice_list {cur vs : List Value} {o : Nat} {xs : List Value} (hx : cur.take xs.length = xs) (ho : o <= xs.length) (hf : o + vs.length <= cur.length) :
  (cur.take o ++ vs ++ cur.drop (o + vs.length)).take (max xs.length (o + vs.length)) = xs.take o ++ vs ++ xs.drop (o + vs.length) /\ (cur.take o ++ vs ++ cur.drop (o + vs.length)).length = cur.length := by
 have hxl : xs.length <= cur.length := by
  have := congrArg List.length hx
  simp at this
  omega
 refine ⟨?_, by simp; omega⟩
 have e1 : xs.take o = cur.take o := by rw [<- hx, List.take_take, Nat.min_eq_left ho]
 have e2 : (cur.take o ++ vs).length = o + vs.length := by simp; omega
 rw [List.take_append, e2, e1]
 rw [List.take_of_length_le (by rw [e2]; exact Nat.le_max_right _ _)]
 congr 1
 rw [<- hx, List.drop_take, hx]
 congr 1
 omega

theorem Own.put {lo : Nat} {e : TypeId} {sz : Nat} {H H' : Heap} {s : Sl} {xs : List Value} {g o n' : Nat} {vs : List Value} (h : Own lo e sz H s xs) (hp : s.p = some ⟨g, 0, none⟩) (w : Put H g o vs H') (ho : o <= xs.length) (hf : o + vs.length <= s.c * sz) (hn : n' * sz = max xs.length (o + vs.length)) (hnc : n' <= s.c) :
  Own lo e sz H' ⟨s.p, n', s.c⟩ (xs.take o ++ vs ++ xs.drop (o + vs.length)) := by
 obtain ⟨p, n, c⟩ := s
 dsimp only at hp hf hnc ⊢
 subst hp
 obtain ⟨h1, h2⟩ := h
 rcases h2 with ⟨h3, _⟩ | ⟨g', cap, cur, h3, h4, h5, h6, h7, h8, h9⟩
 ·simp at h3
 ·simp only [Value.slice.injEq, Option.some.injEq, Addr.mk.injEq] at h3
  obtain ⟨⟨rfl, _, _⟩, _, rfl⟩ := h3
  have hcl : cur.toList.length = c * sz := by simpa using h8
  dsimp only at h1 h9
  have hx : cur.toList.take xs.length = xs := by rw [h1]; exact h9
  obtain ⟨q1, q2⟩ := splice_list (vs := vs) hx ho (by omega)
  refine ⟨?_, .inr ⟨g, c, (cur.toList.take o ++ vs ++ cur.toList.drop (o + vs.length)).toArray, rfl, h4, w.same cur e h5, hnc, h7, ?_, ?_⟩⟩
  ·simp only [List.length_append, List.length_take, List.length_drop]
   omega
  ·rw [List.size_toArray, q2, hcl]
  ·rw [hn]; exact q1

theorem Own.pre {lo : Nat} {e : TypeId} {sz : Nat} {H : Heap} {s : Sl} {xs : List Value} {n : Nat} (h : Own lo e sz H s xs) (hp : s.p ≠ none) (hn : n <= s.n) : Own lo e sz H ⟨s.p, n, s.c⟩ (xs.take (n * sz)) := by
 obtain ⟨p, m, c⟩ := s
 dsimp only at hp hn ⊢
 obtain ⟨h1, h2⟩ := h
 dsimp only at h1
 have hm := Nat.mul_le_mul_right sz hn
 rcases h2 with ⟨h3, _⟩ | ⟨g', cap, cur, h3, h4, h5, h6, h7, h8, h9⟩
 ·simp only [Value.slice.injEq] at h3
  exact absurd h3.1 hp
 ·simp only [Value.slice.injEq] at h3
  obtain ⟨rfl, _, rfl⟩ := h3
  refine ⟨by simp; omega, .inr ⟨g', c, cur, rfl, h4, h5, by dsimp only at *; omega, h7, h8, ?_⟩⟩
  dsimp only at h9 ⊢
  rw [<- h9, List.take_take, Nat.min_eq_left hm]

theorem Own.behind {lo : Nat} {e : TypeId} {sz : Nat} {H H' : Heap} {s : Sl} {xs : List Value} {g o : Nat} {vs : List Value} (h : Own lo e sz H s xs) (w : Put H g o vs H') (ho : xs.length <= o) (hf : ∀ cur e, H[g]? = some (.cells cur e (0, 0)) -> o + vs.length <= cur.size) : Own lo e sz H' s xs := by
 obtain ⟨p, n, c⟩ := s
 obtain ⟨h1, h2⟩ := h
 refine ⟨h1, ?_⟩
 rcases h2 with h3 | ⟨g', cap, cur, h3, h4, h5, h6, h7, h8, h9⟩
 ·exact .inl h3
 ·by_cases hg : g' = g
  ·subst hg
   have hfit := hf cur e h5
   have hcl : cur.toList.length = cur.size := by simp
   dsimp only at h1 h9
   refine .inr ⟨g', cap, _, h3, h4, w.same cur e h5, h6, h7, ?_, ?_⟩
   ·rw [List.size_toArray, <- h8]
    simp only [List.length_append, List.length_take, List.length_drop]
    omega
   ·dsimp only
    rw [List.append_assoc, List.take_append_of_le_length (by simp; omega), List.take_take, Nat.min_eq_left (by omega), h9]
  ·refine .inr ⟨g', cap, cur, h3, h4, ?_, h6, h7, h8, h9⟩
   show H'[g']? = _
   rw [w.other g' hg]
   exact h5

theorem setRow_put {w : World} {g o : Nat} {cur : Array Value} {t : TypeId} {vs : List Value} (hb : w.heap[g]? = some (.cells cur t (0, 0))) : Put w.heap g o vs (w.setRow g (cur.toList.take o ++ vs ++ cur.toList.drop (o + vs.length)).toArray).heap := by
 refine ⟨by simp [World.setRow], fun k hk => setRow_other w g k _ hk, fun cur' e h => ?_⟩
 rw [hb] at h
 simp only [Option.some.injEq, Obj.cells.injEq] at h
 obtain ⟨rfl, rfl, _⟩ := h
 exact setRow_heap w g cur _ t _ hb

theorem copy_put {P : Program} {st st' ty e e' : TypeId} {sz g o dn dc : Nat} {H : Heap} {src : Sl} {cur : Array Value} {vs : List Value} {K : Value -> Heap -> Prop}
  (ht : P.underlying st = some (.slice e)) (hi : szT P e = some sz) (hb : H[g]? = some (.cells cur e' (0, 0))) (hl : vs.length = (Nat.min src.n dn) * sz) (hf : o + vs.length <= cur.size)
  (hs : (src.p = none /\ vs = []) \/ ∃ ad, src.p = some ad /\ ∀ j u, vs[j]? = some u -> rd H (ad.add j) = some u) (hone : ∀ u ∈ vs, oneC u = true)
  (hK : ∀ H', Put H g o vs H' -> K (.int .i64 (Nat.min src.n dn : Nat)) H') :
  runH P (Builtin.copy_ #[st, st'] ty #[.slice (some (⟨g, o, none⟩ : Addr)) dn dc, .slice src.p src.n src.c]) H K := by
 intro w hw
 subst hw
 obtain ⟨i, hi1, hi2⟩ : ∃ i, P.info? e = some i /\ i.size = sz := by
  unfold szT at hi
  cases hq : P.info? e with
  | none => rw [hq] at hi; cases hi
  | some i => rw [hq] at hi; exact ⟨i, rfl, by simpa using hi⟩
 have h1 : ∀ v ∈ vs, v.oneCell' = true := by
  intro u hu
  have := hone u hu
  cases u <;> simp_all [oneC, Value.oneCell']
 have hst := run_storeCells_at P g o e' vs 0 cur w hb (by omega) h1
 simp only [Nat.add_zero] at hst
 have hpo := hK _ (setRow_put (o := o) (vs := vs) hb)
 refine ⟨_, w.setRow g (cur.toList.take o ++ vs ++ cur.toList.drop (o + vs.length)).toArray, ?_, ⟨rfl, rfl, rfl⟩, hpo⟩
 rcases hs with ⟨hp, hv⟩ | ⟨ad, hp, hr⟩
 ·subst hv
  rw [hp]
  simp [Builtin.copy_, run_underlying ht, Builtin.lenOf, Builtin.firstCells, sizeOf, typeInfo, hi1, goInt, hst]
 ·have hld := run_firstCells_some (P := P) w sz (Nat.min src.n dn) ad src.n src.c vs hl hr
  rw [hp]
  simp [Builtin.copy_, run_underlying ht, Builtin.lenOf, sizeOf, typeInfo, hi1, hi2, goInt, hld, hst]

theorem clear_put {P : Program} {st ty e e' : TypeId} {z : Value} {sz bytes g o n c : Nat} {H : Heap} {cur : Array Value} {K : Value -> Heap -> Prop}
  (ht : P.underlying st = some (.slice e)) (hi : (P.info? e).map (fun i => (i.zero, i.size, i.bytes)) = some (some z, sz, bytes)) (hzs : z.cells.size = sz) (hz1 : ∀ u ∈ (Builtin.zeroCells z.cells n).toList, oneC u = true) (hb : H[g]? = some (.cells cur e' (0, 0))) (hf : o + n * sz <= cur.size)
  (hK : ∀ H' vs, Put H g o vs H' -> vs.length = n * sz -> (n = 0 -> H' = H) -> K (.tuple #[]) H') :
  runH P (Builtin.clear_ #[st] ty #[.slice (some (⟨g, o, none⟩ : Addr)) n c]) H K := by
 intro w hw
 subst hw
 obtain ⟨i, hi1, hi2, hi3, hi4⟩ := info_ex hi
 by_cases hn : n = 0
 ·subst hn
  refine ⟨_, w, ?_, .refl w, hK w.heap [] (Put.nil _ _ _) (by simp) (fun _ => rfl)⟩
  simp [Builtin.clear_, run_underlying ht]
 ·have h1 : ∀ v ∈ (Builtin.zeroCells z.cells n).toList, v.oneCell' = true := by
   intro u hu
   have := hz1 u hu
   cases u <;> simp_all [oneC, Value.oneCell']
  have hzl : (Builtin.zeroCells z.cells n).toList.length = n * sz := by simp [Builtin.zeroCells, hzs]
  have hst := run_storeCells_at P g o e' (Builtin.zeroCells z.cells n).toList 0 cur w hb (by omega) h1
  simp only [Nat.add_zero] at hst
  refine ⟨_, w.setRow g (cur.toList.take o ++ (Builtin.zeroCells z.cells n).toList ++ cur.toList.drop (o + (Builtin.zeroCells z.cells n).toList.length)).toArray, ?_, ⟨rfl, rfl, rfl⟩, hK _ _ (setRow_put (o := o) (vs := (Builtin.zeroCells z.cells n).toList) hb) hzl (fun h0 => absurd h0 hn)⟩
  obtain ⟨m, rfl⟩ : ∃ m, n = m + 1 := ⟨n - 1, by omega⟩
  simp [Builtin.clear_, run_underlying ht, zeroValue, typeInfo, hi1, hi2, hst]

theorem append_zeros {P : Program} {t tn ty e : TypeId} {kn : IntKind} {z : Value} {sz bytes lo l : Nat} {H : Heap} {s : Sl} {xs : List Value} {ad : Addr} {K : Value -> Heap -> Prop}
  (ht : P.underlying t = some (.slice e)) (htn : P.underlying tn = some (.int kn)) (hi : (P.info? e).map (fun i => (i.zero, i.size, i.bytes)) = some (some z, sz, bytes)) (hzs : z.cells.size = sz) (hsz : 0 < sz)
  (h : Own lo e sz H s xs) (hp : s.p = some ad) (hl0 : 0 < l) (hg : s.c < s.n + l) (h63 : s.n + l <= maxLen) (hby : (s.n + l) * bytes <= 140737488355328)
  (hK : ∀ (c : Nat) (zs : List Value) (H' : Heap), Own H.size e sz H' ⟨some ⟨H.size, 0, none⟩, s.n + l, c⟩ (xs ++ zs) -> zs.length = l * sz -> Ext H H' -> K (.slice (some ⟨H.size, 0, none⟩) (s.n + l) c) H') :
  runH P (Builtin.append_ #[t, tn] ty #[.slice s.p s.n s.c, .int .i64 (l : Int)]) H K := by
 intro w hw
 subst hw
 obtain ⟨i, hi1, hi2, hi3, hi4⟩ := info_ex hi
 obtain ⟨p, n, c⟩ := s
 dsimp only at *
 have hlen := h.1
 dsimp only at hlen
 have holds : ∀ j v, xs[j]? = some v -> w.drew.cell? (ad.add j) = some v := by
  obtain ⟨_, h2⟩ := h
  rcases h2 with ⟨h3, _⟩ | ⟨g, cap, cur, h3, h4, h5, h6, h7, h8, h9⟩
  ·simp only [Value.slice.injEq] at h3; rw [h3.1] at hp; cases hp
  ·simp only [Value.slice.injEq] at h3
   obtain ⟨rfl, _, rfl⟩ := h3
   simp only [Option.some.injEq] at hp
   subst hp
   intro j v hj
   have e1 : (⟨g, 0, none⟩ : Addr).add j = ⟨g, j, none⟩ := by unfold Addr.add; split <;> simp_all
   have h5' : w.heap[g]? = some (.cells cur e (0, 0)) := h5
   have hjl : j < xs.length := (List.getElem?_eq_some_iff.1 hj).1
   rw [<- h9, List.getElem?_take_of_lt (by omega), Array.getElem?_toList] at hj
   rw [e1, World.cell?_drew]
   simp only [World.cell?, h5']
   simpa using hj
 subst hp
 have hn : ¬ (n + l <= c) := by omega
 have hmx : n + l <= 9223372036854775807 := by simp only [maxLen] at h63; omega
 have h63' : ¬ (9223372036854775807 < ((n : Int) + (l : Int))) := by omega
 have h48' : ¬ (281474976710656 < Builtin.nextslicecap (n + l) c * i.bytes) := by
  have := growslice_fits (need := n + l) (old := c) (bytes := i.bytes) (by omega) (by rw [hi4]; exact hby)
  omega
 have h48i : ¬ (281474976710656 < (l : Int) * (i.bytes : Int)) := by
  rw [<- Int.natCast_mul]
  have : l * i.bytes <= (n + l) * i.bytes := Nat.mul_le_mul_right _ (by omega)
  rw [hi4] at *
  omega
 have hw : IntKind.i64.wrap (l : Int) = l := by rw [IntKind.wrap_i64]; omega
 have hneg : ¬ ((l : Int) < 0) := by omega
 have hns : ¬ (l * i.size = 0) := Nat.mul_ne_zero (by omega) (by omega)
 have hfo := run_firstCells_some (P := P) w.drew i.size n ad n c xs (by rw [hi3]; exact hlen) holds
 have hzl : ∀ m, (Builtin.zeroCells z.cells m).size = m * sz := fun m => by simp [Builtin.zeroCells, hzs]
 have hge := grownCap_ge w (n + l) c e
 have hcm : grownCap w (n + l) c e <= maxLen := grownCap_le_maxLen w (n + l) c e h63
 refine ⟨.slice (some ⟨w.heap.size, 0, none⟩) (n + l) (grownCap w (n + l) c e), w.drew.alloc (.cells (xs.toArray ++ Builtin.zeroCells z.cells l ++ Builtin.zeroCells z.cells (grownCap w (n + l) c e - (n + l))) e), ?_, ⟨rfl, rfl, rfl⟩, hK (grownCap w (n + l) c e) (Builtin.zeroCells z.cells l).toList _ ?_ (by simp [Builtin.zeroCells, hzs]) ?_⟩
 ·simp [Builtin.append_, run_underlying ht, run_underlying htn, sizeOf, typeInfo, zeroValue, hi1, hi2, asInt, asIntOf, hw, hn, hneg, hns, h63', h48', h48i, Question.forced, hfo, newRow, grownCap]
 ·have hxl : (xs ++ (Builtin.zeroCells z.cells l).toList).length = (n + l) * sz := by
   have h3 := hzl l
   rw [<- Array.length_toList] at h3
   rw [List.length_append, h3, hlen, Nat.add_mul]
  refine ⟨hxl, .inr ⟨w.heap.size, _, _, rfl, Nat.le_refl _, heap_alloc_new w.drew _, hge, hcm, ?_, ?_⟩⟩
  ·simp only [Array.size_append, List.size_toArray, hzl, hlen, <- Nat.add_mul]
   congr 1
   omega
  ·simp only [Array.toList_append]
   rw [<- hxl]
   exact List.take_left
 ·exact ⟨by simp, fun b hb => heap_alloc_old w.drew _ b hb⟩

theorem Own.rdAt {lo : Nat} {e : TypeId} {sz : Nat} {H : Heap} {s : Sl} {xs : List Value} {g : Nat} (h : Own lo e sz H s xs) (hp : s.p = some ⟨g, 0, none⟩) (o : Nat) : ∀ j u, (xs.drop o)[j]? = some u -> rd H ((⟨g, o, none⟩ : Addr).add j) = some u := by
 intro j u hj
 rcases h.cases.2 with ⟨h3, _⟩ | ⟨g', cur, h3, h4, h5, h6, h7, h8⟩
 ·rw [h3] at hp; cases hp
 ·rw [hp] at h3
  simp only [Option.some.injEq, Addr.mk.injEq] at h3
  obtain ⟨rfl, _, _⟩ := h3
  have e1 : (⟨g, o, none⟩ : Addr).add j = ⟨g, o + j, none⟩ := by unfold Addr.add; split <;> simp_all
  rw [List.getElem?_drop] at hj
  have hl : o + j < xs.length := (List.getElem?_eq_some_iff.1 hj).1
  have hx := h.cases.1
  rw [<- h8, List.getElem?_take_of_lt (by omega), Array.getElem?_toList] at hj
  rw [e1]
  simp only [rd, h5]
  simpa using hj

theorem Own.block {lo : Nat} {e : TypeId} {sz : Nat} {H : Heap} {s : Sl} {xs : List Value} {g : Nat} (h : Own lo e sz H s xs) (hp : s.p = some ⟨g, 0, none⟩) : ∃ cur, H[g]? = some (.cells cur e (0, 0)) /\ cur.size = s.c * sz /\ lo <= g /\ s.n <= s.c := by
 rcases h.cases.2 with ⟨h3, _⟩ | ⟨g', cur, h3, h4, h5, h6, h7, h8⟩
 ·rw [h3] at hp; cases hp
 ·rw [hp] at h3
  simp only [Option.some.injEq, Addr.mk.injEq] at h3
  obtain ⟨rfl, _, _⟩ := h3
  exact ⟨cur, h5, h7, h4, h6⟩

theorem slP_some {g c k sz : Nat} (h : k < c) : slP (some (⟨g, 0, none⟩ : Addr)) c k sz = some ⟨g, k * sz, none⟩ := by
 unfold slP
 rw [if_neg (by omega)]
 simp only [Option.map_some, Option.some.injEq]
 unfold Addr.add
 split
 ·rename_i h0; rw [h0]
 ·simp

end Go.Eng
