/-
 The engine, part 9: kinds of rows (their constants at one place), append by kind, lists that grow by a condition.
-/
import Derived.Test.YtnhhncjflnlfaaaGreatEngC
namespace Go.Eng

structure RK {α : Type} (P : Program) (st e : TypeId) (z : Value) (sz bytes : Nat) (enc : α -> List Value) : Prop where
 ht : P.underlying st = some (.slice e)
 hi : (P.info? e).map (fun i => (i.zero, i.size, i.bytes)) = some (some z, sz, bytes)
 hzs : z.cells.size = sz
 hsz : 0 < sz
 hby : 0 < bytes
 he : ∀ x, (enc x).length = sz
 hone : ∀ x, ∀ u ∈ enc x, oneC u = true

section
variable {α : Type} {P : Program} {st ty e : TypeId} {z : Value} {sz bytes lo : Nat} {enc : α -> List Value} {H : Heap} {s src : Sl} {l ys : List α}

theorem rk_max (r : RK P st e z sz bytes enc) {n : Nat} (hb : n * bytes <= 140737488355328) : n <= maxLen := by
 have := Nat.le_mul_of_pos_right n r.hby
 show n <= 9223372036854775807
 omega

theorem Own.len (r : RK P st e z sz bytes enc) (h : Own lo e sz H s (l.flatMap enc)) : s.n = l.length := (Own.rb r.he r.hsz h).1
theorem Own.is (r : RK P st e z sz bytes enc) (h : Own lo e sz H s (l.flatMap enc)) : IsS sz enc H s l := h.isS r.he r.hsz

theorem apR (r : RK P st e z sz bytes enc) (x : α) {K : Sl -> Heap -> Prop} (h : Own lo e sz H s (l.flatMap enc)) (hb : (s.n + 1) * bytes <= 140737488355328) (hlo : lo <= H.size)
  (hK : ∀ (s' : Sl) (H' : Heap), Own lo e sz H' s' ((l ++ [x]).flatMap enc) -> s'.n = s.n + 1 -> Mods (blkOf s.p) H H' -> K s' H') :
  letH (H.push (.cells (enc x).toArray e (0, 0))) (fun H1 => runH P (Builtin.append_ #[st, st] st #[.slice s.p s.n s.c, .slice (some (⟨H.size, 0, none⟩ : Addr)) 1 1]) H1 (fun v H2 => ∃ y : Sl, v = .slice y.p y.n y.c /\ K y H2)) :=
 append_row x r.ht r.hi r.hzs r.hsz r.he r.hone h (rk_max r hb) hb hlo hK

theorem apRat (r : RK P st e z sz bytes enc) (x : α) {K : Sl -> Heap -> Prop} (h : Own lo e sz H s (l.flatMap enc)) (hb : (s.n + 1) * bytes <= 140737488355328) (hlo : lo <= H.size)
  (hK : ∀ (s' : Sl) (H' : Heap), Own lo e sz H' s' ((l ++ [x]).flatMap enc) -> s'.n = s.n + 1 -> Mods (blkOf s.p) H H' -> (∀ a, s'.p = some a -> a.block ∈ blkOf s.p \/ H.size < a.block) -> K s' H') :
  letH (H.push (.cells (enc x).toArray e (0, 0))) (fun H1 => runH P (Builtin.append_ #[st, st] st #[.slice s.p s.n s.c, .slice (some (⟨H.size, 0, none⟩ : Addr)) 1 1]) H1 (fun v H2 => ∃ y : Sl, v = .slice y.p y.n y.c /\ K y H2)) := by
 refine letH_mk ?_
 rintro H1 rfl
 have hnew : Blk (H.push (.cells (enc x).toArray e (0, 0))) H.size e (enc x) := Blk.new _ _ _
 have his : IsS sz enc (H.push (.cells (enc x).toArray e (0, 0))) ⟨some ⟨H.size, 0, none⟩, 1, 1⟩ [x] := ⟨rfl, .inr ⟨_, rfl, fun i y hi j v hv => by
  have hi0 : i = 0 := by
   have := (List.getElem?_eq_some_iff.1 hi).1
   simpa using this
  subst hi0
  simp at hi
  subst hi
  rw [Nat.zero_mul]
  show rd _ (((⟨H.size, 0, none⟩ : Addr).add 0).add j) = _
  rw [add_add', Nat.zero_add]
  exact hnew.rd hv⟩⟩
 refine append_at (src := ⟨some ⟨H.size, 0, none⟩, 1, 1⟩) (ys := [x]) r.ht r.hi r.hzs r.hsz r.he r.hone (h.ext (Ext.push _ _)) his (by simp) (rk_max r (by simpa using hb)) (by simpa using hb) (by simp; omega) ?_
 intro s' H' ho hn' m hat
 refine ⟨s', rfl, hK s' H' ho hn' ⟨?_, fun k hk hkn => ?_⟩ (fun a ha => ?_)⟩
 ·have := m.size; simp at this; omega
 ·rw [m.get k (by simp; omega) hkn, push_lt hk]
 ·rcases hat a ha with h1 | h1
  ·exact .inl h1
  ·exact .inr (by simp at h1; omega)

theorem apA (r : RK P st e z sz bytes enc) {K : Value -> Heap -> Prop} (h : Own lo e sz H s (l.flatMap enc)) (hs : IsS sz enc H src ys) (hb : (s.n + ys.length) * bytes <= 140737488355328) (hlo : lo <= H.size)
  (hK : ∀ (s' : Sl) (H' : Heap), Own lo e sz H' s' ((l ++ ys).flatMap enc) -> s'.n = s.n + ys.length -> Mods (blkOf s.p) H H' -> (∀ a, s'.p = some a -> a.block ∈ blkOf s.p \/ a.block = H.size) -> K (.slice s'.p s'.n s'.c) H') :
  runH P (Builtin.append_ #[st, st] ty #[.slice s.p s.n s.c, .slice src.p src.n src.c]) H K := by
 cases hp : src.p with
 | none =>
  have h0 : ys = [] := by
   rcases hs.row with e | ⟨a, ha, _⟩
   ·exact e
   ·rw [hp] at ha; cases ha
  have hn0 : src.n = 0 := by rw [hs.len, h0]; rfl
  subst h0
  rw [hn0]
  obtain ⟨i, hi1, _, hi3, _⟩ := info_ex r.hi
  refine append_none (e := e) (sz := sz) r.ht (by simp [szT, hi1, hi3]) ?_ (hK s H (by simpa using h) (by simp) (Mods.refl _ _) (fun a ha => .inl (by rw [ha]; simp [blkOf])))
  rcases h.cases.2 with ⟨e, _⟩ | ⟨_, _, _, _, _, hc, _⟩
  ·rw [e]; simp
  ·exact hc
 | some ad =>
  rw [<- hp]
  exact append_at r.ht r.hi r.hzs r.hsz r.he r.hone h hs (by rw [hp]; simp) (rk_max r hb) hb hlo hK

end

theorem zeroRow_size (z : Value) (n : Nat) : (zeroRow z n).size = n * z.cells.size := by simp [zeroRow]
theorem own_lo {lo lo' : Nat} {e : TypeId} {sz : Nat} {H : Heap} {s : Sl} {xs : List Value} (h : Own lo e sz H s xs) (hl : lo' <= lo) : Own lo' e sz H s xs := by
 obtain ⟨h1, h2⟩ := h
 refine ⟨h1, ?_⟩
 rcases h2 with h2 | ⟨g, cap, cur, a, b, c⟩
 ·exact .inl h2
 ·exact .inr ⟨g, cap, cur, a, Nat.le_trans hl b, c⟩

theorem Own.cap {lo : Nat} {e : TypeId} {sz : Nat} {H : Heap} {s : Sl} {xs : List Value} (h : Own lo e sz H s xs) : s.n <= s.c := by
 rcases h.cases.2 with ⟨e, _⟩ | ⟨_, _, _, _, _, hc, _⟩
 ·rw [e]; simp
 ·exact hc

theorem IsS.dropS {α : Type} {sz : Nat} {enc : α -> List Value} {H : Heap} {s : Sl} {l : List α} (h : IsS sz enc H s l) (hc : s.n <= s.c) (m : Nat) (hm : m <= l.length) : IsS sz enc H ⟨slP s.p s.c m sz, s.n - m, s.c - m⟩ (l.drop m) := by
 have hn := h.len
 refine ⟨by simp; omega, ?_⟩
 by_cases he : m = l.length
 ·left; rw [he]; simp
 ·right
  rcases h.row with e | ⟨a, hp, hr⟩
  ·subst e; simp at hm; exact absurd hm he
  ·refine ⟨a.add (m * sz), ?_, fun i x hi j v hv => ?_⟩
   ·unfold slP
    rw [if_neg (by omega), hp]
    rfl
   ·rw [List.getElem?_drop] at hi
    have := hr (m + i) x hi j v hv
    rw [add_add' a (m * sz) (i * sz), <- Nat.add_mul]
    exact this

theorem Mods.newer {S T : List Nat} {A B C : Heap} (h : Mods S A B) (k : Mods T B C) (hT : ∀ t ∈ T, A.size <= t \/ t ∈ S) : Mods S A C :=
 ⟨Nat.le_trans h.size k.size, fun i hi hn => (k.get i (Nat.lt_of_lt_of_le hi h.size) (fun e => by rcases hT i e with h1 | h1; omega; exact hn h1)).trans (h.get i hi hn)⟩
theorem spl_sub (A C : List Value) : ∀ (ws B : List Value) (j : Nat), j + ws.length <= B.length -> spl (A ++ B ++ C) (A.length + j) ws = A ++ spl B j ws ++ C
 | [], B, j, _ => rfl
 | w :: ws, B, j, h => by
  simp only [List.length_cons] at h
  simp only [spl]
  rw [set_mid (by omega), Nat.add_assoc, spl_sub A C ws (B.set j w) (j + 1) (by simp; omega)]
theorem RB.wrSub {α : Type} {sz : Nat} {enc : α -> List Value} {H : Heap} {b : Nat} {e : TypeId} {l : List α} (h : RB H b e sz enc l) {i j : Nat} {x y : α} {ws : List Value} (hi : l[i]? = some x) (hj : j + ws.length <= sz) (hy : spl (enc x) j ws = enc y) :
  RB (wrs H (((⟨b, 0, none⟩ : Addr).add (i * sz)).add j) ws) b e sz enc (l.set i y) := by
 obtain ⟨g, ex, h⟩ := h
 have hlt := (List.getElem?_eq_some_iff.1 hi).1
 refine ⟨g, ex, ?_⟩
 rw [add_add', add_mk]
 have h2 := h.wr (o := 0 + (i * sz + j)) (ws := ws)
 have e1 : spl (l.flatMap enc ++ ex) (0 + (i * sz + j)) ws = (l.set i y).flatMap enc ++ ex := by
  rw [flat_split (enc := enc) hi, flat_split_set hlt, List.append_assoc _ _ ex, List.append_assoc _ _ ex, Nat.zero_add, <- flat_take_len g hlt, spl_sub _ _ _ _ _ (by rw [g]; exact hj), hy]
 rw [e1] at h2
 exact h2

def CS (H : Heap) (g n : Nat) : Prop := ∃ c e, H[g]? = some (.cells c e (0, 0)) /\ c.size = n
theorem CS.lt {H : Heap} {g n : Nat} (h : CS H g n) : g < H.size := by obtain ⟨c, e, h1, _⟩ := h; exact get_lt h1
theorem CS.ext {H H' : Heap} {g n : Nat} (h : CS H g n) (e : Ext H H') : CS H' g n := by
 have hl := h.lt
 obtain ⟨c, t, h1, h2⟩ := h
 exact ⟨c, t, by rw [e.get g hl]; exact h1, h2⟩
theorem CS.mods {H H' : Heap} {g n : Nat} {S : List Nat} (h : CS H g n) (m : Mods S H H') (hn : g ∉ S) : CS H' g n := by
 have hl := h.lt
 obtain ⟨c, t, h1, h2⟩ := h
 exact ⟨c, t, by rw [m.get g hl hn]; exact h1, h2⟩
theorem splice_size (vs : List Value) : ∀ (c : Array Value) (i : Nat), (splice c i vs).size = c.size := by
 induction vs with
 | nil => intro c i; rfl
 | cons v vs ih => intro c i; simp only [splice]; rw [ih]; simp
theorem CS.wrs {H : Heap} {g n : Nat} (h : CS H g n) (a : Addr) (vs : List Value) : CS (wrs H a vs) g n := by
 obtain ⟨c, t, h1, h2⟩ := h
 by_cases e : g = a.block
 ·subst e
  obtain ⟨b, o, s⟩ := a
  exact ⟨_, _, wrs_get h1, by rw [splice_size]; exact h2⟩
 ·exact ⟨c, t, by rw [wrs_ne e]; exact h1, h2⟩
theorem RB.own {α : Type} {sz : Nat} {enc : α -> List Value} {H : Heap} {b : Nat} {e : TypeId} {l : List α} (h : RB H b e sz enc l) (hc : CS H b (l.length * sz)) {lo n : Nat} (hlo : lo <= b) (hn : n = l.length) (hm : n <= maxLen) : Own lo e sz H ⟨some ⟨b, 0, none⟩, n, n⟩ (l.flatMap enc) := by
 obtain ⟨g, ex, hb⟩ := h
 obtain ⟨c, t, h1, h2⟩ := hc
 have hf := flat_len g l
 have hb' : H[b]? = some (.cells (l.flatMap enc ++ ex).toArray e (0, 0)) := hb
 rw [hb'] at h1
 simp only [Option.some.injEq, Obj.cells.injEq] at h1
 have hex : ex = [] := by
  rw [<- h1.1, List.size_toArray, List.length_append, hf] at h2
  exact List.eq_nil_of_length_eq_zero (by omega)
 subst hex
 rw [List.append_nil] at hb'
 exact Own.of_blk hb' (by rw [hf, hn]) hlo hm

theorem take_succ_d {α : Type} {l : List α} {k : Nat} (d : α) (h : k < l.length) : l.take (k + 1) = l.take k ++ [l.getD k d] := by
 rw [List.take_add_one]
 simp [List.getD, h]
theorem filter_succ {α : Type} {l : List α} {k : Nat} (d : α) (q : α -> Bool) (h : k < l.length) : (l.take (k + 1)).filter q = (l.take k).filter q ++ (if q (l.getD k d) then [l.getD k d] else []) := by
 rw [take_succ_d d h, List.filter_append]
 congr 1
 simp only [List.filter_cons, List.filter_nil]
theorem filter_take_len {α : Type} (l : List α) (k : Nat) (q : α -> Bool) : ((l.take k).filter q).length <= k := by
 have h1 := List.length_filter_le q (l.take k)
 have h2 : (l.take k).length <= k := by simp; omega
 omega
theorem getD_get {α : Type} {l : List α} {k : Nat} (d : α) (h : k < l.length) : l[k]? = some (l.getD k d) := by simp [List.getD, h]
theorem getD_mem' {α : Type} {l : List α} {k : Nat} (d : α) (h : k < l.length) : l.getD k d ∈ l := by
 have := getD_get d h
 exact List.mem_of_getElem? this

end Go.Eng
