/-
  The engine, part 7: the builtin 'copy' into a block of one's own.
-/
import Derived.Laws.CopyRow
import Derived.Laws.IdiomCopy
import Derived.Test.YtankllejpldleaaEngM
namespace Go.Eng

theorem copy_rb {α : Type} {P : Program} {st st' ty e e' : TypeId} {sz g dc : Nat} {enc : α → List Value} {H : Heap} {s : Sl} {l L : List α} {K : Value → Heap → Prop}
    (ht : P.underlying st = some (.slice e)) (hi : szT P e = some sz) (hd : RB H g e' sz enc L) (hs : IsS sz enc H s l) (hl : l.length ≤ L.length) (hone : ∀ x, ∀ u ∈ enc x, oneC u = true)
    (hK : ∀ H', RB H' g e' sz enc (l ++ L.drop l.length) → Mods [g] H H' → H'.size = H.size → K (.int .i64 l.length) H') :
    runH P (Builtin.copy_ #[st, st'] ty #[.slice (some (⟨g, 0, none⟩ : Addr)) L.length dc, .slice s.p s.n s.c]) H K := by
  intro w hw
  subst hw
  obtain ⟨he, ex, hb⟩ := hd
  obtain ⟨i, hi1, hi2⟩ : ∃ i, P.info? e = some i ∧ i.size = sz := by
    unfold szT at hi
    cases hq : P.info? e with
    | none => rw [hq] at hi; cases hi
    | some i => rw [hq] at hi; exact ⟨i, rfl, by simpa using hi⟩
  have hn : Nat.min s.n L.length = l.length := by rw [hs.len]; exact Nat.min_eq_left hl
  cases hp : s.p with
  | none =>
    have hl0 : l = [] := by
      rcases hs.row with h | ⟨a, ha, _⟩
      · exact h
      · rw [hp] at ha; cases ha
    subst hl0
    refine ⟨_, w, ?_, .refl w, hK w.heap ⟨he, ex, by simpa using hb⟩ (.refl _ _) rfl⟩
    simp [Builtin.copy_, run_underlying ht, Builtin.lenOf, Builtin.firstCells, sizeOf, typeInfo, hi1, storeCells, goInt]
    have := hs.len
    exact .inl (by simpa using this)
  | some a =>
    have hfl := flat_len he l
    have hld := run_loadCells_list (P := P) w a (l.flatMap enc) (fun j v hv => hs.flat he hp j v hv)
    have h1 : ∀ v ∈ l.flatMap enc, v.oneCell' = true := by
      intro u hu
      obtain ⟨x, _, hx⟩ := List.mem_flatMap.1 hu
      have := hone x u hx
      cases u <;> simp_all [oneC, Value.oneCell']
    have hfit : (l.flatMap enc).length ≤ (L.flatMap enc ++ ex).toArray.size := by
      simp only [List.size_toArray, List.length_append, flat_len he]
      have := Nat.mul_le_mul_right sz hl
      omega
    have hst := run_storeCells_at P g 0 e' (l.flatMap enc) 0 _ w hb (by simpa using hfit) h1
    simp only [Nat.add_zero, Nat.zero_add, List.take_zero, List.nil_append, hfl] at hst
    have hX : l.flatMap enc ++ (L.flatMap enc ++ ex).drop (l.length * sz) = (l ++ L.drop l.length).flatMap enc ++ ex := by
      rw [List.flatMap_append, List.append_assoc]
      congr 1
      have h2 := flat_len he (L.take l.length)
      rw [List.length_take, Nat.min_eq_left hl] at h2
      have h3 : L.flatMap enc = (L.take l.length).flatMap enc ++ (L.drop l.length).flatMap enc := by rw [← List.flatMap_append, List.take_append_drop]
      rw [h3, List.append_assoc, ← h2, List.drop_left]
    rw [hX] at hst
    refine ⟨.int .i64 l.length, w.setRow g ((l ++ L.drop l.length).flatMap enc ++ ex).toArray, ?_, ⟨rfl, rfl, rfl⟩, hK _ ⟨he, ex, setRow_heap w g _ _ e' _ hb⟩ ⟨?_, fun k hk hne => ?_⟩ ?_⟩
    · rw [hfl] at hld
      simp [Builtin.copy_, Builtin.lenOf, Builtin.firstCells, sizeOf, typeInfo, goInt, run_underlying ht, hi1, hi2]
      rw [hn, hld]
      simp [hst]
    · simp [World.setRow]
    · unfold World.setRow
      dsimp only
      rw [Array.getElem?_modify, if_neg (fun e => hne (by simp [e]))]
    · simp [World.setRow]

end Go.Eng
