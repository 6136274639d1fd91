/-
 The engine, part 7: the builtin 'copy' into a block of one's own.
-/
import Derived.Laws.CopyRow
import Derived.Laws.IdiomCopy
import Derived.Maps.AppendAt
import Derived.Test.YtnhhncjflnlfaaaGreatEngM
namespace Go.Eng

theorem append_rows {α : Type} {P : Program} {st e : TypeId} {z : Value} {sz bytes lo n : Nat} {enc : α -> List Value} {H : Heap} {s : Sl} {l : List α} (ys : List α) {K : Sl -> Heap -> Prop}
  (ht : P.underlying st = some (.slice e)) (hi : (P.info? e).map (fun i => (i.zero, i.size, i.bytes)) = some (some z, sz, bytes)) (hzs : z.cells.size = sz) (hsz : 0 < sz) (he : ∀ x, (enc x).length = sz)
  (hone : ∀ x, ∀ u ∈ enc x, oneC u = true) (hy : n = ys.length) (h : Own lo e sz H s (l.flatMap enc)) (hn : s.n + n <= maxLen) (hb : (s.n + n) * bytes <= 140737488355328) (hlo : lo <= H.size)
  (hK : ∀ (s' : Sl) (H' : Heap), Own lo e sz H' s' ((l ++ ys).flatMap enc) -> s'.n = s.n + n -> Mods (blkOf s.p) H H' -> K s' H') :
  letH (H.push (.cells (ys.flatMap enc).toArray e (0, 0))) (fun H1 => runH P (Builtin.append_ #[st, st] st #[.slice s.p s.n s.c, .slice (some (⟨H.size, 0, none⟩ : Addr)) n n]) H1 (fun v H2 => ∃ y : Sl, v = .slice y.p y.n y.c /\ K y H2)) := by
 obtain ⟨i, hi1, hi2, hi3, hi4⟩ := info_ex hi
 refine letH_mk ?_
 rintro H1 rfl
 have hnew : Blk (H.push (.cells (ys.flatMap enc).toArray e (0, 0))) H.size e (ys.flatMap enc) := Blk.new _ _ _
 refine append_own (src := ⟨some ⟨H.size, 0, none⟩, n, n⟩) (news := ys.flatMap enc) ht hi1 hi2 hi3 hi4 hzs hsz (h.ext (Ext.push _ _)) rfl (by rw [flat_len he, hy]) (fun j u hu => hnew.rd hu) (fun u hu => ?_) hn hb (by simp; omega) ?_
 ·obtain ⟨x, _, hx⟩ := List.mem_flatMap.1 hu
  exact hone x u hx
 intro s' H' ho hn' hg
 refine ⟨s', rfl, hK s' H' ?_ hn' ⟨?_, fun k hk hkn => ?_⟩⟩
 ·rw [List.flatMap_append]; exact ho
 ·have := hg.1; simp at this; omega
 ·rw [hg.2 k (by simp; omega) (fun a ha e => hkn (by rw [ha]; simp [blkOf, e])), push_lt hk]

theorem append_at {α : Type} {P : Program} {st ty e : TypeId} {z : Value} {sz bytes lo : Nat} {enc : α -> List Value} {H : Heap} {s src : Sl} {l ys : List α} {K : Value -> Heap -> Prop}
  (ht : P.underlying st = some (.slice e)) (hi : (P.info? e).map (fun i => (i.zero, i.size, i.bytes)) = some (some z, sz, bytes)) (hzs : z.cells.size = sz) (hsz : 0 < sz) (he : ∀ x, (enc x).length = sz)
  (hone : ∀ x, ∀ u ∈ enc x, oneC u = true) (h : Own lo e sz H s (l.flatMap enc)) (hs : IsS sz enc H src ys) (hp : src.p ≠ none) (hn : s.n + ys.length <= maxLen) (hb : (s.n + ys.length) * bytes <= 140737488355328) (hlo : lo <= H.size)
  (hK : ∀ (s' : Sl) (H' : Heap), Own lo e sz H' s' ((l ++ ys).flatMap enc) -> s'.n = s.n + ys.length -> Mods (blkOf s.p) H H' -> (∀ a, s'.p = some a -> a.block ∈ blkOf s.p \/ a.block = H.size) -> K (.slice s'.p s'.n s'.c) H') :
  runH P (Builtin.append_ #[st, st] ty #[.slice s.p s.n s.c, .slice src.p src.n src.c]) H K := by
 obtain ⟨i, hi1, hi2, hi3, hi4⟩ := info_ex hi
 intro w hw
 subst hw
 cases hsp : src.p with
 | none => exact absurd hsp hp
 | some ad =>
  have hown : w.ownsRow lo e sz (.slice s.p s.n s.c) s.n (l.flatMap enc) := h
  have hl := hs.len
  have h1' : ∀ u ∈ ys.flatMap enc, u.oneCell' = true := by
   intro u hu
   obtain ⟨x, _, hx⟩ := List.mem_flatMap.1 hu
   have := hone x u hx
   cases u <;> simp_all [oneC, Value.oneCell']
  have hnews : ∀ j u, (ys.flatMap enc)[j]? = some u -> w.cell? (ad.add j) = some u := fun j u hu => hs.flat he hsp j u hu
  obtain ⟨v', w', hr, ho, hg, _, hat⟩ := run_append_own_at (P := P) w lo st ty e i z sz bytes ht hi1 hi2 hi3 hi4 hzs hsz _ s.n (l.flatMap enc) hown ad src.n src.c (ys.flatMap enc) (by rw [flat_len he, hl]) hnews h1' (by rw [hl]; exact hn) (by rw [hl]; exact hb) hlo
  refine ⟨v', w', hr, ⟨hg.tape, hg.os, hg.output⟩, ?_⟩
  obtain ⟨s', hv'⟩ : ∃ s' : Sl, v' = .slice s'.p s'.n s'.c := by
   rcases ho.2 with ⟨hv, _⟩ | ⟨g, cap, cur, hv, _⟩
   ·exact ⟨⟨none, 0, 0⟩, hv⟩
   ·exact ⟨⟨_, _, _⟩, hv⟩
  subst hv'
  have hn' : s'.n = s.n + src.n := by
   rcases ho.2 with ⟨hv, h0⟩ | ⟨g, cap, cur, hv, _⟩
   ·simp only [Value.slice.injEq] at hv
    omega
   ·simp only [Value.slice.injEq] at hv
    exact hv.2.1
  refine hK s' w'.heap ?_ (by rw [hn', hl]) ⟨hg.size, fun k hk hne => hg.block k hk ?_⟩ ?_
  ·have ho2 : (wOf w'.heap).ownsRow lo e sz (.slice s'.p s'.n s'.c) (s.n + src.n) (l.flatMap enc ++ ys.flatMap enc) := ho
   rw [<- hn'] at ho2
   rw [List.flatMap_append]
   exact ho2
  ·intro e2
   cases hp2 : s.p with
   | none => rw [hp2] at e2; simp [Value.ownBlock] at e2
   | some a => rw [hp2] at e2 hne; simp [Value.ownBlock] at e2; exact hne (by simp [blkOf, e2])
  ·intro a ha
   rw [ha] at hat
   cases hp2 : s.p with
   | none => rw [hp2] at hat; simp [Value.ownBlock] at hat; exact .inr hat
   | some b => rw [hp2] at hat; simp [Value.ownBlock] at hat; simp [blkOf]; exact hat

theorem append_none {P : Program} {st ty e : TypeId} {sz : Nat} {H : Heap} {s : Sl} {c : Nat} {K : Value -> Heap -> Prop} (ht : P.underlying st = some (.slice e)) (hi : szT P e = some sz) (hc : s.n <= s.c)
  (hK : K (.slice s.p s.n s.c) H) : runH P (Builtin.append_ #[st, st] ty #[.slice s.p s.n s.c, .slice none 0 c]) H K := by
 obtain ⟨i, hi1, hi2⟩ : ∃ i, P.info? e = some i /\ i.size = sz := by
  unfold szT at hi
  cases hq : P.info? e with
  | none => rw [hq] at hi; cases hi
  | some i => rw [hq] at hi; exact ⟨i, rfl, by simpa using hi⟩
 intro w hw
 subst hw
 refine ⟨_, w, ?_, .refl w, hK⟩
 cases hp : s.p with
 | none => simp [Builtin.append_, run_underlying ht, sizeOf, typeInfo, hi1, Builtin.lenOf, Builtin.firstCells, hc]
 | some a => simp [Builtin.append_, run_underlying ht, sizeOf, typeInfo, hi1, Builtin.lenOf, Builtin.firstCells, hc, storeCells]

end Go.Eng
