/-
 The engine, part 5: what the arguments of a law hold, read off the statement's own reading of them.
-/
import Derived.Deep.Slices
import Derived.OpenShut
import Derived.Test.YtnhhncjflnlfaaaGreatEngL
namespace Go.Eng

def Opens {α : Type} (P : Program) (t : TypeId) (R : Heap -> List Value -> α -> Prop) : Prop :=
 ∀ (H : Type) (enc : TypeId × Value -> H) (w : World) (base : Nat) (spare : Nat -> Bool) (held : Bool) (fuel : Nat) (cs : List Value) (x : DataW H × List MemPlace),
  DataW.trod enc P w base spare held fuel t cs = some x -> ∃ a, R w.heap cs a

theorem opens_int {P : Program} {t : TypeId} {k : IntKind} (ht : P.underlying t = some (.int k)) : Opens P t (fun _ cs (n : Int) => cs = [.int k n] /\ (Lit.int k n).wf = true) := by
 intro H enc w base spare held fuel cs x h
 obtain ⟨n, h1, _, h2⟩ := DataW.trod_int ht h
 exact ⟨n, h1, h2⟩

theorem opens_bool {P : Program} {t : TypeId} (ht : P.underlying t = some .bool) : Opens P t (fun _ cs (n : Bool) => cs = [.bool n]) := by
 intro H enc w base spare held fuel cs x h
 obtain ⟨n, h1, _⟩ := DataW.trod_bool ht h
 exact ⟨n, h1⟩

theorem list_choose {α : Type} {Q : Nat -> α -> Prop} : ∀ n : Nat, (∀ i, i < n -> ∃ x, Q i x) -> ∃ l : List α, l.length = n /\ ∀ i x, l[i]? = some x -> Q i x := by
 intro n
 induction n with
 | zero => intro _; exact ⟨[], rfl, fun i x h => by simp at h⟩
 | succ n ih =>
  intro h
  obtain ⟨l, hl, hq⟩ := ih (fun i hi => h i (by omega))
  obtain ⟨x, hx⟩ := h n (by omega)
  refine ⟨l ++ [x], by simp [hl], fun i y hy => ?_⟩
  rw [List.getElem?_append] at hy
  split at hy
  ·exact hq i y hy
  ·rename_i hlt
   have hi : i - l.length = 0 := by
    have := (List.getElem?_eq_some_iff.1 hy).1
    simp at this
    omega
   rw [hi] at hy
   cases hy
   have : i = n := by omega
   subst this
   exact hx

structure SlR {α : Type} (sz : Nat) (R : Heap -> List Value -> α -> Prop) (H : Heap) (s : Sl) (l : List α) : Prop where
 len : s.n = l.length
 cap : s.n <= s.c
 max : s.c <= maxLen
 row : l = [] \/ ∃ a, s.p = some a /\ ∀ i x, l[i]? = some x -> ∃ cs, cs.length = sz /\ R H cs x /\ ∀ j v, cs[j]? = some v -> rd H ((a.add (i * sz)).add j) = some v

def IsSl {α : Type} (sz : Nat) (R : Heap -> List Value -> α -> Prop) (H : Heap) (cs : List Value) (l : List α) : Prop := ∃ s : Sl, cs = [.slice s.p s.n s.c] /\ SlR sz R H s l

theorem opens_slice {α : Type} {P : Program} {t e : TypeId} {sz : Nat} {R : Heap -> List Value -> α -> Prop} (ht : P.underlying t = some (.slice e)) (hc : P.cellsOf e = sz) (he : Opens P e R) : Opens P t (IsSl sz R) := by
 intro H enc w base spare held fuel cs x h
 rcases Go.Deep.open_slice ht h with ⟨rfl, _⟩ | ⟨a, len, cap, m, n, D, Pl, rfl, _, hl, hm, hmm, _, hx⟩
 ·exact ⟨[], ⟨none, 0, 0⟩, rfl, rfl, Nat.le_refl _, Nat.zero_le _, .inl rfl⟩
 ·obtain ⟨l, h1, h2⟩ := list_choose (Q := fun i x => ∃ cs, cs.length = sz /\ R w.heap cs x /\ ∀ j v, cs[j]? = some v -> rd w.heap ((a.add (i * sz)).add j) = some v) len (fun i hi => by
   obtain ⟨cs', g1, g2⟩ := hx i (by rw [hmm]; split <;> omega)
   obtain ⟨_, g3, g4⟩ := World.cells?_some g1
   obtain ⟨y, hy⟩ := he H enc w base spare held n cs' _ g2
   refine ⟨y, cs', by rw [g3, hc], hy, fun j v hv => ?_⟩
   have hj : j < P.cellsOf e := by rw [<- g3]; exact (List.getElem?_eq_some_iff.1 hv).1
   have := g4 j hj
   rw [hv, hc] at this
   exact this)
  exact ⟨l, ⟨some a, len, cap⟩, rfl, h1.symm, hl, hm, .inr ⟨a, rfl, h2⟩⟩

theorem opens_fields {P : Program} {t : TypeId} {fs : Array Field} (ht : P.underlying t = some (.struct fs)) {H : Type} {enc : TypeId × Value -> H} {w : World} {base : Nat} {spare : Nat -> Bool} {held : Bool} {fuel : Nat} {cs : List Value} {x : DataW H × List MemPlace}
  (h : DataW.trod enc P w base spare held fuel t cs = some x) {α : Type} {R : Heap -> List Value -> α -> Prop} (i : Nat) {ft : TypeId} {o c : Nat} (hf : (fs[i]?).map (fun f => (f.type, f.offset)) = some (ft, o)) (hc : P.cellsOf ft = c) (ho : Opens P ft R) :
  ∃ a, R w.heap ((cs.drop o).take c) a := by
 obtain ⟨xs, n, _, _, hl, hx, hg⟩ := DataW.trod_struct ht h
 cases hfi : fs[i]? with
 | none => rw [hfi] at hf; cases hf
 | some f =>
  rw [hfi] at hf
  simp only [Option.map_some, Option.some.injEq, Prod.mk.injEq] at hf
  obtain ⟨rfl, rfl⟩ := hf
  have h1 := hg i f hfi
  have hi : i < fs.size := (Array.getElem?_eq_some_iff.1 hfi).1
  rw [List.getElem?_eq_getElem (by omega), hc] at h1
  exact ho H enc w base spare held n _ _ h1

theorem opens_len {P : Program} {t : TypeId} {fs : Array Field} (ht : P.underlying t = some (.struct fs)) {H : Type} {enc : TypeId × Value -> H} {w : World} {base : Nat} {spare : Nat -> Bool} {held : Bool} {fuel : Nat} {cs : List Value} {x : DataW H × List MemPlace}
  (h : DataW.trod enc P w base spare held fuel t cs = some x) : cs.length = P.cellsOf t := by
 obtain ⟨xs, n, _, _, hl, _⟩ := DataW.trod_struct ht h
 exact hl

theorem SlR.isS {α : Type} {sz : Nat} {R : Heap -> List Value -> α -> Prop} {enc : α -> List Value} {H : Heap} {s : Sl} {l : List α} (h : SlR sz R H s l) (he : ∀ cs x, R H cs x -> cs = enc x) : IsS sz enc H s l := by
 refine ⟨h.len, ?_⟩
 rcases h.row with h0 | ⟨a, hp, hr⟩
 ·exact .inl h0
 ·refine .inr ⟨a, hp, fun i x hi j v hv => ?_⟩
  obtain ⟨cs, _, h2, h3⟩ := hr i x hi
  rw [he cs x h2] at h3
  exact h3 j v hv

theorem SlR.all {α : Type} {sz : Nat} {R : Heap -> List Value -> α -> Prop} {H : Heap} {s : Sl} {l : List α} (h : SlR sz R H s l) : ∀ x ∈ l, ∃ cs, R H cs x := by
 intro x hx
 rcases h.row with h0 | ⟨a, _, hr⟩
 ·rw [h0] at hx; cases hx
 ·obtain ⟨i, hi, rfl⟩ := List.getElem_of_mem hx
  obtain ⟨cs, _, h2, _⟩ := hr i l[i] (by simp [hi])
  exact ⟨cs, h2⟩

theorem SlR.lt {α : Type} {sz : Nat} {R : Heap -> List Value -> α -> Prop} {H : Heap} {s : Sl} {l : List α} (h : SlR sz R H s l) : l.length <= maxLen := by
 have := h.len; have := h.cap; have := h.max; omega

end Go.Eng
