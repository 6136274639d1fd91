/-
 The engine, part 10: what the arguments of a law hold, where no slice among them is greater than a machine's memory (as the statements say).
-/
import Derived.SizedLaws
import Derived.Test.YtnhhncjflnlfaaaGreatEngO
namespace Go.Eng

def OpensZ {α : Type} (P : Program) (t : TypeId) (R : Heap -> List Value -> α -> Prop) : Prop :=
 ∀ (H : Type) (enc : TypeId × Value -> H) (w : World) (base : Nat) (spare : Nat -> Bool) (held : Bool) (fuel : Nat) (cs : List Value) (x : DataW H × List MemPlace),
  DataW.trod enc P w base spare held fuel t cs = some x -> (∀ n ∈ x.1.weights P t, n <= reachBytes) -> ∃ a, R w.heap cs a

theorem Opens.z {α : Type} {P : Program} {t : TypeId} {R : Heap -> List Value -> α -> Prop} (h : Opens P t R) : OpensZ P t R := fun H enc w base spare held fuel cs x hx _ => h H enc w base spare held fuel cs x hx

theorem mem_weightsAll {H : Type} {P : Program} {e : TypeId} {d : DataW H} : ∀ {l : List (DataW H)}, d ∈ l -> ∀ n ∈ d.weights P e, n ∈ DataW.weightsAll P e l
 | [], h, _, _ => by cases h
 | y :: l, h, n, hn => by
  simp only [DataW.weightsAll, List.mem_append]
  rcases List.mem_cons.1 h with rfl | h
  ·exact .inl hn
  ·exact .inr (mem_weightsAll h n hn)

theorem opens_slice_z {α : Type} {P : Program} {t e : TypeId} {sz : Nat} {R : Heap -> List Value -> α -> Prop} (ht : P.underlying t = some (.slice e)) (hc : P.cellsOf e = sz) (he : OpensZ P e R) :
  OpensZ P t (fun H cs l => IsSl sz R H cs l /\ l.length * P.bytesOf e <= reachBytes) := by
 intro H enc w base spare held fuel cs x h hw
 rcases Go.Deep.open_slice ht h with ⟨rfl, _⟩ | ⟨a, len, cap, m, n, D, Pl, rfl, _, hl, hm, hmm, rfl, hx⟩
 ·exact ⟨[], ⟨⟨none, 0, 0⟩, rfl, rfl, Nat.le_refl _, Nat.zero_le _, .inl rfl⟩, by simp⟩
 ·simp only [DataW.weights, ht] at hw
  obtain ⟨l, h1, h2⟩ := list_choose (Q := fun i x => ∃ cs, cs.length = sz /\ R w.heap cs x /\ ∀ j v, cs[j]? = some v -> rd w.heap ((a.add (i * sz)).add j) = some v) len (fun i hi => by
   obtain ⟨cs', g1, g2⟩ := hx i (by rw [hmm]; split <;> omega)
   obtain ⟨_, g3, g4⟩ := World.cells?_some g1
   obtain ⟨y, hy⟩ := he H enc w base spare held n cs' _ g2 (fun k hk => hw k (List.mem_cons_of_mem _ (List.mem_append_left _ (mem_weightsAll (List.mem_map.2 ⟨i, List.mem_range.2 hi, rfl⟩) k hk))))
   refine ⟨y, cs', by rw [g3, hc], hy, fun j v hv => ?_⟩
   have hj : j < P.cellsOf e := by rw [<- g3]; exact (List.getElem?_eq_some_iff.1 hv).1
   have := g4 j hj
   rw [hv, hc] at this
   exact this)
  refine ⟨l, ⟨⟨some a, len, cap⟩, rfl, h1.symm, hl, hm, .inr ⟨a, rfl, h2⟩⟩, ?_⟩
  have := hw _ (List.mem_cons_self)
  rw [List.length_map, List.length_range] at this
  rw [h1]
  exact Nat.le_trans (Nat.mul_le_mul_right _ (Nat.le_add_right _ _)) this

theorem opens_fields_z {P : Program} {t : TypeId} {fs : Array Field} (ht : P.underlying t = some (.struct fs)) {H : Type} {enc : TypeId × Value -> H} {w : World} {base : Nat} {spare : Nat -> Bool} {held : Bool} {fuel : Nat} {cs : List Value} {x : DataW H × List MemPlace}
  (h : DataW.trod enc P w base spare held fuel t cs = some x) (hw : ∀ n ∈ x.1.weights P t, n <= reachBytes) {α : Type} {R : Heap -> List Value -> α -> Prop} (i : Nat) {ft : TypeId} {o c : Nat} (hf : (fs[i]?).map (fun f => (f.type, f.offset)) = some (ft, o)) (hc : P.cellsOf ft = c) (ho : OpensZ P ft R) :
  ∃ a, R w.heap ((cs.drop o).take c) a := by
 obtain ⟨xs, n, _, rfl, hl, hx, hg⟩ := DataW.trod_struct ht h
 simp only [DataW.weights, ht] at hw
 cases hfi : fs[i]? with
 | none => rw [hfi] at hf; cases hf
 | some f =>
  rw [hfi] at hf
  simp only [Option.map_some, Option.some.injEq, Prod.mk.injEq] at hf
  obtain ⟨rfl, rfl⟩ := hf
  have h1 := hg i f hfi
  have hi : i < fs.size := (Array.getElem?_eq_some_iff.1 hfi).1
  have hxi : xs[i]? = some (xs[i]'(by omega)) := List.getElem?_eq_getElem (by omega)
  rw [hxi, hc] at h1
  refine ho H enc w base spare held n _ _ h1 (fun k hk => hw k (DataW.weights_mem_each (j := i) (t := f.type) ?_ ?_ k hk))
  ·rw [List.getElem?_map, Array.getElem?_toList, hfi]; rfl
  ·rw [List.getElem?_map, hxi]; rfl

theorem OpensZ.trod {α : Type} {P : Program} {t : TypeId} {R : Heap -> List Value -> α -> Prop} (h : OpensZ P t R) {H : Type} {enc : TypeId × Value -> H} {w : World} {base : Nat} {spare : Nat -> Bool} {held : Bool} {v : Value} {d : DataW H} {ps : List MemPlace}
  (ht : DataW.Trod enc P w base spare held t v d ps) (hw : ∀ n ∈ d.weights P t, n <= reachBytes) : ∃ a, R w.heap v.cells.toList a := by
 obtain ⟨fuel, hf⟩ := ht
 exact h H enc w base spare held fuel _ _ hf hw

theorem each_z {H : Type} {P : Program} {ts : List TypeId} {ds : List (DataW H)} (h : (DataW.weightsEach P ts ds).all (· <= reachBytes) = true) {j : Nat} {t : TypeId} {d : DataW H} (ht : ts[j]? = some t) (hd : ds[j]? = some d) : ∀ n ∈ d.weights P t, n <= reachBytes := fun n hn => by
 simpa using List.all_eq_true.1 h n (DataW.weights_mem_each ht hd n hn)

end Go.Eng
