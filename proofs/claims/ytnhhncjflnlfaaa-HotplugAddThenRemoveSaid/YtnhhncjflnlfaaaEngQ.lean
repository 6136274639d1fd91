/-
  The engine, part 9: kinds of rows (their constants at one place), append by kind, lists that grow by a condition.
-/
import Derived.Test.YtnhhncjflnlfaaaEngC
namespace Go.Eng

/-- What 'append' wants to know of a kind of rows. -/
structure RK {α : Type} (P : Program) (st e : TypeId) (z : Value) (sz bytes : Nat) (enc : α → List Value) : Prop where
  ht : P.underlying st = some (.slice e)
  hi : (P.info? e).map (fun i => (i.zero, i.size, i.bytes)) = some (some z, sz, bytes)
  hzs : z.cells.size = sz
  hsz : 0 < sz
  hby : 0 < bytes
  he : ∀ x, (enc x).length = sz
  hone : ∀ x, ∀ u ∈ enc x, oneC u = true

section
variable {α : Type} {P : Program} {st ty e : TypeId} {z : Value} {sz bytes lo : Nat} {enc : α → List Value} {H : Heap} {s src : Sl} {l ys : List α}

theorem rk_max (r : RK P st e z sz bytes enc) {n : Nat} (hb : n * bytes ≤ 140737488355328) : n ≤ maxLen := by
  have := Nat.le_mul_of_pos_right n r.hby
  show n ≤ 9223372036854775807
  omega

theorem Own.len (r : RK P st e z sz bytes enc) (h : Own lo e sz H s (l.flatMap enc)) : s.n = l.length := (Own.rb r.he r.hsz h).1
theorem Own.is (r : RK P st e z sz bytes enc) (h : Own lo e sz H s (l.flatMap enc)) : IsS sz enc H s l := h.isS r.he r.hsz

theorem apR (r : RK P st e z sz bytes enc) (x : α) {K : Sl → Heap → Prop} (h : Own lo e sz H s (l.flatMap enc)) (hb : (s.n + 1) * bytes ≤ 140737488355328) (hlo : lo ≤ H.size)
    (hK : ∀ (s' : Sl) (H' : Heap), Own lo e sz H' s' ((l ++ [x]).flatMap enc) → s'.n = s.n + 1 → Mods (blkOf s.p) H H' → K s' H') :
    letH (H.push (.cells (enc x).toArray e (0, 0))) (fun H1 => runH P (Builtin.append_ #[st, st] st #[.slice s.p s.n s.c, .slice (some (⟨H.size, 0, none⟩ : Addr)) 1 1]) H1 (fun v H2 => ∃ y : Sl, v = .slice y.p y.n y.c ∧ K y H2)) :=
  append_row x r.ht r.hi r.hzs r.hsz r.he r.hone h (rk_max r hb) hb hlo hK

theorem apA (r : RK P st e z sz bytes enc) {K : Value → Heap → Prop} (h : Own lo e sz H s (l.flatMap enc)) (hs : IsS sz enc H src ys) (hb : (s.n + ys.length) * bytes ≤ 140737488355328) (hlo : lo ≤ H.size)
    (hK : ∀ (s' : Sl) (H' : Heap), Own lo e sz H' s' ((l ++ ys).flatMap enc) → s'.n = s.n + ys.length → Mods (blkOf s.p) H H' → (∀ a, s'.p = some a → a.block ∈ blkOf s.p ∨ a.block = H.size) → K (.slice s'.p s'.n s'.c) H') :
    runH P (Builtin.append_ #[st, st] ty #[.slice s.p s.n s.c, .slice src.p src.n src.c]) H K := by
  cases hp : src.p with
  | none =>
    have h0 : ys = [] := by
      rcases hs.row with e | ⟨a, ha, _⟩
      · exact e
      · rw [hp] at ha; cases ha
    have hn0 : src.n = 0 := by rw [hs.len, h0]; rfl
    subst h0
    rw [hn0]
    obtain ⟨i, hi1, _, hi3, _⟩ := info_ex r.hi
    refine append_none (e := e) (sz := sz) r.ht (by simp [szT, hi1, hi3]) ?_ (hK s H (by simpa using h) (by simp) (Mods.refl _ _) (fun a ha => .inl (by rw [ha]; simp [blkOf])))
    rcases h.cases.2 with ⟨e, _⟩ | ⟨_, _, _, _, _, hc, _⟩
    · rw [e]; simp
    · exact hc
  | some ad =>
    rw [← hp]
    exact append_at r.ht r.hi r.hzs r.hsz r.he r.hone h hs (by rw [hp]; simp) (rk_max r hb) hb hlo hK

end

theorem zeroRow_size (z : Value) (n : Nat) : (zeroRow z n).size = n * z.cells.size := by simp [zeroRow]
/-- 'make' with length 0. -/
theorem Own.make {lo n sz : Nat} {e : TypeId} {H : Heap} {z : Value} (hlo : lo ≤ H.size) (hn : n ≤ maxLen) (hz : z.cells.size = sz) : Own lo e sz (H.push (.cells (zeroRow z n) e (0, 0))) ⟨some ⟨H.size, 0, none⟩, 0, n⟩ [] :=
  ⟨by simp, .inr ⟨H.size, n, zeroRow z n, rfl, hlo, push_new _ _, Nat.zero_le _, hn, by rw [zeroRow_size, hz], by simp⟩⟩

theorem take_succ_d {α : Type} {l : List α} {k : Nat} (d : α) (h : k < l.length) : l.take (k + 1) = l.take k ++ [l.getD k d] := by
  rw [List.take_add_one]
  simp [List.getD, h]
theorem filter_succ {α : Type} {l : List α} {k : Nat} (d : α) (q : α → Bool) (h : k < l.length) : (l.take (k + 1)).filter q = (l.take k).filter q ++ (if q (l.getD k d) then [l.getD k d] else []) := by
  rw [take_succ_d d h, List.filter_append]
  congr 1
  simp only [List.filter_cons, List.filter_nil]
theorem filter_take_len {α : Type} (l : List α) (k : Nat) (q : α → Bool) : ((l.take k).filter q).length ≤ k := by
  have h1 := List.length_filter_le q (l.take k)
  have h2 : (l.take k).length ≤ k := by simp; omega
  omega
theorem getD_get {α : Type} {l : List α} {k : Nat} (d : α) (h : k < l.length) : l[k]? = some (l.getD k d) := by simp [List.getD, h]
theorem getD_mem' {α : Type} {l : List α} {k : Nat} (d : α) (h : k < l.length) : l.getD k d ∈ l := by
  have := getD_get d h
  exact List.mem_of_getElem? this

end Go.Eng
