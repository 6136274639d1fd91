/-
  ResourcesPrefetchable.
-/
import Derived.Test.YtfodidlecpiohaaL3p
namespace Go.Proofs.Ytfodidlecpiohaa
open Go.Eng

/-- What Needs answers for a valid topology. -/
theorem NeedsR.out {T : List FS} {high : Bool} {H H' : Heap} {v : Value} (h : NeedsR T high H v H') (hv : ValidT T) : ∃ (out : Sl) (e : Int) (L : List Need), v = .tuple #[.slice out.p out.n out.c, .int .i64 e] ∧ IsS 4 encN H' out L ∧ ((e = 0 ∧ L = needsAll T high) ∨ (e = 11 ∧ L = [])) ∧ Ext H H' := by
  rcases h with ⟨hn, he⟩ | ⟨_, ho, he⟩ | ⟨out, _, ho, hs, hn, he⟩
  · exact absurd hv hn
  · exact ⟨⟨none, 0, 0⟩, 11, [], rfl, IsS.nil _ _ _, .inr ⟨rfl, rfl⟩, he⟩
  · exact ⟨out, 0, needsAll T high, rfl, hs.isS encN_len (by omega), .inl ⟨rfl, rfl⟩, he⟩

theorem out_mem {T : List FS} {high : Bool} {e : Int} {L : List Need} (h : (e = 0 ∧ L = needsAll T high) ∨ (e = 11 ∧ L = [])) {x : Need} (hx : x ∈ L) : ∃ i, i < T.length ∧ PrefOk T high i x := by
  rcases h with ⟨_, rfl⟩ | ⟨_, rfl⟩
  · exact needsAll_pref hx
  · simp at hx

end Go.Proofs.Ytfodidlecpiohaa
