/-
 Ranges of addresses, in plain terms: which addresses a list covers; ascending lists with gaps are known by what they cover; merging, removing, cutting.
-/
import Derived.Test.YtnhhncjflnlfaaaGreatEngQ
namespace Go.Proofs.YtnhhncjflnlfaaaGreat
open Go.Eng
set_option linter.unusedVariables false

abbrev Rg := Int × Int
def Cov (l : List Rg) (x : Int) : Prop := ∃ r ∈ l, r.1 <= x /\ x < r.1 + r.2
def Asc : List Rg -> Prop
 | [] => True
 | r :: l => 1 <= r.2 /\ (∀ s ∈ l, r.1 + r.2 < s.1) /\ Asc l

theorem Cov_nil (x : Int) : ¬ Cov [] x := fun ⟨_, h, _⟩ => by cases h
theorem Cov_cons {r : Rg} {l : List Rg} {x : Int} : Cov (r :: l) x ↔ (r.1 <= x /\ x < r.1 + r.2) \/ Cov l x := by
 constructor
 ·rintro ⟨s, hs, h⟩
  rcases List.mem_cons.1 hs with rfl | hs
  ·exact .inl h
  ·exact .inr ⟨s, hs, h⟩
 ·rintro (h | ⟨s, hs, h⟩)
  ·exact ⟨r, by simp, h⟩
  ·exact ⟨s, by simp [hs], h⟩
theorem Cov_append {a b : List Rg} {x : Int} : Cov (a ++ b) x ↔ Cov a x \/ Cov b x := by
 constructor
 ·rintro ⟨s, hs, h⟩
  rcases List.mem_append.1 hs with hs | hs
  ·exact .inl ⟨s, hs, h⟩
  ·exact .inr ⟨s, hs, h⟩
 ·rintro (⟨s, hs, h⟩ | ⟨s, hs, h⟩)
  ·exact ⟨s, by simp [hs], h⟩
  ·exact ⟨s, by simp [hs], h⟩
theorem Cov_perm {a b : List Rg} (h : a.Perm b) {x : Int} : Cov a x ↔ Cov b x :=
 ⟨fun ⟨s, hs, hh⟩ => ⟨s, h.mem_iff.1 hs, hh⟩, fun ⟨s, hs, hh⟩ => ⟨s, h.mem_iff.2 hs, hh⟩⟩

theorem Asc.len {l : List Rg} (h : Asc l) : ∀ r ∈ l, 1 <= r.2 := by
 induction l with
 | nil => intro r hr; cases hr
 | cons s l ih =>
  intro r hr
  rcases List.mem_cons.1 hr with rfl | hr
  ·exact h.1
  ·exact ih h.2.2 r hr

theorem Asc.head {r : Rg} {l : List Rg} (h : Asc (r :: l)) : Cov (r :: l) r.1 := Cov_cons.2 (.inl (by have := h.1; omega))
theorem Asc.least {r : Rg} {l : List Rg} (h : Asc (r :: l)) {x : Int} (hx : Cov (r :: l) x) : r.1 <= x := by
 rcases Cov_cons.1 hx with hx | ⟨s, hs, hx⟩
 ·exact hx.1
 ·have := h.2.1 s hs; have := h.1; omega
theorem Asc.gap {r : Rg} {l : List Rg} (h : Asc (r :: l)) : ¬ Cov (r :: l) (r.1 + r.2) := fun hx => by
 rcases Cov_cons.1 hx with hx | ⟨s, hs, hx⟩
 ·omega
 ·have := h.2.1 s hs; omega
theorem Asc.tail {r : Rg} {l : List Rg} (h : Asc (r :: l)) {x : Int} : Cov l x ↔ Cov (r :: l) x /\ r.1 + r.2 <= x := by
 constructor
 ·rintro ⟨s, hs, hx⟩
  have := h.2.1 s hs
  exact ⟨Cov_cons.2 (.inr ⟨s, hs, hx⟩), by omega⟩
 ·rintro ⟨hx, hle⟩
  rcases Cov_cons.1 hx with hx | hx
  ·omega
  ·exact hx

theorem asc_unique : ∀ {l m : List Rg}, Asc l -> Asc m -> (∀ x, Cov l x ↔ Cov m x) -> l = m
 | [], [], _, _, _ => rfl
 | [], s :: m, _, hm, h => absurd ((h s.1).2 hm.head) (Cov_nil _)
 | r :: l, [], hl, _, h => absurd ((h r.1).1 hl.head) (Cov_nil _)
 | r :: l, s :: m, hl, hm, h => by
  have h1 := hm.least ((h r.1).1 hl.head)
  have h2 := hl.least ((h s.1).2 hm.head)
  have e1 : r.1 = s.1 := by omega
  have g1 : ¬ Cov (s :: m) (r.1 + r.2) := fun hx => hl.gap ((h _).2 hx)
  have g2 : ¬ Cov (r :: l) (s.1 + s.2) := fun hx => hm.gap ((h _).1 hx)
  have e2 : r.2 = s.2 := by
   have n1 : ¬ (s.1 <= r.1 + r.2 /\ r.1 + r.2 < s.1 + s.2) := fun hh => g1 (Cov_cons.2 (.inl hh))
   have n2 : ¬ (r.1 <= s.1 + s.2 /\ s.1 + s.2 < r.1 + r.2) := fun hh => g2 (Cov_cons.2 (.inl hh))
   have := hl.1
   have := hm.1
   omega
  have e : r = s := Prod.ext e1 e2
  subst e
  rw [asc_unique hl.2.2 hm.2.2 (fun x => by rw [hl.tail, hm.tail, h])]

theorem Asc.append {a b : List Rg} (ha : Asc a) (hb : Asc b) (h : ∀ p ∈ a, ∀ q ∈ b, p.1 + p.2 < q.1) : Asc (a ++ b) := by
 induction a with
 | nil => exact hb
 | cons r a ih =>
  refine ⟨ha.1, fun s hs => ?_, ih ha.2.2 (fun p hp => h p (by simp [hp]))⟩
  rcases List.mem_append.1 hs with hs | hs
  ·exact ha.2.1 s hs
  ·exact h r (by simp) s hs

/-! ### merging -/

def Srt (l : List Rg) : Prop := l.Pairwise (fun a b => a.1 <= b.1)

def mrg : Rg -> List Rg -> List Rg
 | c, [] => [c]
 | c, x :: l => if x.1 <= c.1 + c.2 then mrg (c.1, max c.2 (x.1 + x.2 - c.1)) l else c :: mrg x l
def mergeS : List Rg -> List Rg
 | [] => []
 | x :: l => mrg x l

theorem mrg_spec : ∀ (l : List Rg) (c : Rg), 1 <= c.2 -> (∀ x ∈ l, c.1 <= x.1 /\ 1 <= x.2) -> Srt l ->
  Asc (mrg c l) /\ (∀ x, Cov (mrg c l) x ↔ Cov (c :: l) x) /\ (∀ r ∈ mrg c l, c.1 <= r.1) /\ (mrg c l).length <= l.length + 1
 | [], c, hc, _, _ => ⟨⟨hc, (fun s hs => by cases hs), trivial⟩, fun x => Iff.rfl, fun r hr => by simp [mrg] at hr; rw [hr]; omega, by simp [mrg]⟩
 | x :: l, c, hc, hl, hs => by
  have hx := hl x (by simp)
  have hs' : Srt l := (List.pairwise_cons.1 hs).2
  have hsx : ∀ y ∈ l, x.1 <= y.1 := (List.pairwise_cons.1 hs).1
  unfold mrg
  split
  ·rename_i hle
   obtain ⟨h1, h2, h3, h4⟩ := mrg_spec l (c.1, max c.2 (x.1 + x.2 - c.1)) (by dsimp only; omega) (fun y hy => hl y (by simp [hy])) hs'
   refine ⟨h1, fun y => ?_, h3, by simp; omega⟩
   rw [h2, Cov_cons, Cov_cons, Cov_cons]
   dsimp only
   constructor
   ·rintro (h | h)
    ·by_cases hy : y < c.1 + c.2
     ·exact .inl ⟨h.1, hy⟩
     ·exact .inr (.inl (by omega))
    ·exact .inr (.inr h)
   ·rintro (h | h | h)
    ·exact .inl (by omega)
    ·exact .inl (by omega)
    ·exact .inr h
  ·rename_i hgt
   obtain ⟨h1, h2, h3, h4⟩ := mrg_spec l x hx.2 (fun y hy => ⟨hsx y hy, (hl y (by simp [hy])).2⟩) hs'
   refine ⟨⟨hc, fun s hs => by have := h3 s hs; omega, h1⟩, fun y => by rw [Cov_cons, h2, Cov_cons (l := x :: l)], fun r hr => ?_, by simp; omega⟩
   rcases List.mem_cons.1 hr with rfl | hr
   ·omega
   ·have := h3 r hr; omega

theorem mergeS_spec {l : List Rg} (hl : ∀ x ∈ l, 1 <= x.2) (hs : Srt l) : Asc (mergeS l) /\ (∀ x, Cov (mergeS l) x ↔ Cov l x) /\ (mergeS l).length <= l.length := by
 cases l with
 | nil => exact ⟨trivial, fun x => Iff.rfl, by simp [mergeS]⟩
 | cons x l =>
  obtain ⟨h1, h2, _, h4⟩ := mrg_spec l x (hl x (by simp)) (fun y hy => ⟨(List.pairwise_cons.1 hs).1 y hy, hl y (by simp [hy])⟩) (List.pairwise_cons.1 hs).2
  exact ⟨h1, h2, h4⟩

def rle (a b : Rg) : Bool := decide (a.1 <= b.1)
def mergeF (l : List Rg) : List Rg := mergeS (l.mergeSort rle)

theorem mergeF_srt (l : List Rg) : Srt (l.mergeSort rle) := by
 have := List.pairwise_mergeSort (le := rle) (fun a b c => by unfold rle; simp only [decide_eq_true_eq]; omega) (fun a b => by unfold rle; simp only [Bool.or_eq_true, decide_eq_true_eq]; omega) l
 exact this.imp (fun h => by unfold rle at h; simpa using h)
theorem mergeF_spec {l : List Rg} (hl : ∀ x ∈ l, 1 <= x.2) : Asc (mergeF l) /\ (∀ x, Cov (mergeF l) x ↔ Cov l x) /\ (mergeF l).length <= l.length := by
 have hp := List.mergeSort_perm l rle
 obtain ⟨h1, h2, h3⟩ := mergeS_spec (l := l.mergeSort rle) (fun x hx => hl x (hp.mem_iff.1 hx)) (mergeF_srt l)
 exact ⟨h1, fun x => by rw [show mergeF l = mergeS (l.mergeSort rle) from rfl, h2, Cov_perm hp], by rw [show mergeF l = mergeS (l.mergeSort rle) from rfl, <- hp.length_eq]; exact h3⟩
theorem mergeS_eq {l m : List Rg} (hl : ∀ x ∈ l, 1 <= x.2) (hp : m.Perm l) (hs : Srt m) : mergeS m = mergeF l := by
 obtain ⟨h1, h2, _⟩ := mergeS_spec (l := m) (fun x hx => hl x (hp.mem_iff.1 hx)) hs
 obtain ⟨h3, h4, _⟩ := mergeF_spec hl
 exact asc_unique h1 h3 (fun x => by rw [h2, h4, Cov_perm hp])
theorem mergeF_asc {l : List Rg} (h : Asc l) : mergeF l = l := by
 obtain ⟨h3, h4, _⟩ := mergeF_spec h.len
 exact asc_unique h3 h h4

/-! ### removing -/

def piece (f x : Rg) : List Rg :=
 if x.1 >= f.1 + f.2 \/ x.1 + x.2 <= f.1 then [f] else (if f.1 < x.1 then [(f.1, x.1 - f.1)] else []) ++ (if x.1 + x.2 < f.1 + f.2 then [(x.1 + x.2, f.1 + f.2 - (x.1 + x.2))] else [])
def rmF (l : List Rg) (x : Rg) : List Rg := l.flatMap (fun f => piece f x)

theorem piece_spec {f x : Rg} (hf : 1 <= f.2) (hx : 1 <= x.2) : Asc (piece f x) /\ (∀ y, Cov (piece f x) y ↔ (f.1 <= y /\ y < f.1 + f.2) /\ ¬ (x.1 <= y /\ y < x.1 + x.2)) /\ (∀ q ∈ piece f x, f.1 <= q.1 /\ q.1 + q.2 <= f.1 + f.2) := by
 unfold piece
 split
 ·rename_i h
  refine ⟨⟨hf, (fun s hs => by cases hs), trivial⟩, fun y => ?_, fun q hq => by simp at hq; rw [hq]; omega⟩
  rw [Cov_cons]
  constructor
  ·rintro (hy | hy)
   ·exact ⟨hy, by omega⟩
   ·exact absurd hy (Cov_nil _)
  ·rintro ⟨hy, _⟩; exact .inl hy
 ·rename_i h
  have c1 : ∀ (p : Prop) [Decidable p] (r : Rg) y, Cov (if p then [r] else []) y ↔ p /\ r.1 <= y /\ y < r.1 + r.2 := by
   intro p _ r y
   split
   ·rename_i hp
    rw [Cov_cons]
    exact ⟨fun hh => by rcases hh with hh | hh; exact ⟨hp, hh⟩; exact absurd hh (Cov_nil _), fun hh => .inl hh.2⟩
   ·rename_i hp
    exact ⟨fun hh => absurd hh (Cov_nil _), fun hh => absurd hh.1 hp⟩
  refine ⟨?_, fun y => ?_, fun q hq => ?_⟩
  ·refine Asc.append ?_ ?_ ?_
   ·split
    ·exact ⟨by dsimp only; omega, (fun s hs => by cases hs), trivial⟩
    ·trivial
   ·split
    ·exact ⟨by dsimp only; omega, (fun s hs => by cases hs), trivial⟩
    ·trivial
   ·intro p hp q hq
    split at hp
    ·split at hq
     ·simp at hp hq
      rw [hp, hq]
      dsimp only
      omega
     ·cases hq
    ·cases hp
  ·rw [Cov_append, c1, c1]
   dsimp only
   omega
  ·rcases List.mem_append.1 hq with hq | hq
   ·split at hq
    ·simp at hq; rw [hq]; dsimp only; omega
    ·cases hq
   ·split at hq
    ·simp at hq; rw [hq]; dsimp only; omega
    ·cases hq

theorem rmF_spec {l : List Rg} {x : Rg} (h : Asc l) (hx : 1 <= x.2) : Asc (rmF l x) /\ (∀ y, Cov (rmF l x) y ↔ Cov l y /\ ¬ (x.1 <= y /\ y < x.1 + x.2)) /\ (∀ q ∈ rmF l x, ∃ f ∈ l, f.1 <= q.1 /\ q.1 + q.2 <= f.1 + f.2) := by
 induction l with
 | nil => exact ⟨trivial, fun y => ⟨fun hh => absurd hh (Cov_nil _), fun hh => absurd hh.1 (Cov_nil _)⟩, fun q hq => by cases hq⟩
 | cons f l ih =>
  obtain ⟨i1, i2, i3⟩ := ih h.2.2
  obtain ⟨p1, p2, p3⟩ := piece_spec (x := x) h.1 hx
  have e : rmF (f :: l) x = piece f x ++ rmF l x := by unfold rmF; rw [List.flatMap_cons]
  rw [e]
  refine ⟨Asc.append p1 i1 (fun p hp q hq => ?_), fun y => ?_, fun q hq => ?_⟩
  ·obtain ⟨g, hg, hgq⟩ := i3 q hq
   have := p3 p hp
   have := h.2.1 g hg
   omega
  ·rw [Cov_append, p2, i2, Cov_cons]
   constructor
   ·rintro (⟨a, b⟩ | ⟨a, b⟩)
    ·exact ⟨.inl a, b⟩
    ·exact ⟨.inr a, b⟩
   ·rintro ⟨a | a, b⟩
    ·exact .inl ⟨a, b⟩
    ·exact .inr ⟨a, b⟩
  ·rcases List.mem_append.1 hq with hq | hq
   ·exact ⟨f, by simp, p3 q hq⟩
   ·obtain ⟨g, hg, hgq⟩ := i3 q hq
    exact ⟨g, by simp [hg], hgq⟩

theorem piece_len (f x : Rg) : (piece f x).length <= 2 := by
 unfold piece
 split
 ·simp
 ·rw [List.length_append]
  split <;> split <;> simp

def freeF (l fixed : List Rg) : List Rg := fixed.foldl rmF (mergeF l)

theorem foldl_rm {m : List Rg} : ∀ (fixed : List Rg), (∀ x ∈ fixed, 1 <= x.2) -> Asc m -> Asc (fixed.foldl rmF m) /\ ∀ y, Cov (fixed.foldl rmF m) y ↔ Cov m y /\ ¬ Cov fixed y := by
 intro fixed
 induction fixed generalizing m with
 | nil => intro _ h; exact ⟨h, fun y => ⟨fun hh => ⟨hh, Cov_nil _⟩, fun hh => hh.1⟩⟩
 | cons x fixed ih =>
  intro hx h
  obtain ⟨r1, r2, _⟩ := rmF_spec h (hx x (by simp))
  obtain ⟨i1, i2⟩ := ih (fun y hy => hx y (by simp [hy])) r1
  refine ⟨i1, fun y => ?_⟩
  show Cov (fixed.foldl rmF (rmF m x)) y ↔ _
  rw [i2, r2, Cov_cons]
  constructor
  ·rintro ⟨⟨a, b⟩, c⟩; exact ⟨a, fun hh => by rcases hh with hh | hh; exact b hh; exact c hh⟩
  ·rintro ⟨a, b⟩; exact ⟨⟨a, fun hh => b (.inl hh)⟩, fun hh => b (.inr hh)⟩
theorem freeF_spec {l fixed : List Rg} (hl : ∀ x ∈ l, 1 <= x.2) (hf : ∀ x ∈ fixed, 1 <= x.2) : Asc (freeF l fixed) /\ ∀ y, Cov (freeF l fixed) y ↔ Cov l y /\ ¬ Cov fixed y := by
 obtain ⟨m1, m2, _⟩ := mergeF_spec hl
 obtain ⟨h1, h2⟩ := foldl_rm fixed hf m1
 exact ⟨h1, fun y => by rw [show freeF l fixed = fixed.foldl rmF (mergeF l) from rfl, h2, m2]⟩

/-! ### cutting holes out of one range after the other -/

def cutR (e : Int) : Int -> List Rg -> List Rg
 | b, [] => if b < e then [(b, e - b)] else []
 | b, h :: hs => if h.1 + h.2 <= b \/ h.1 >= e then cutR e b hs else (if h.1 > b then [(b, h.1 - b)] else []) ++ cutR e (min e (h.1 + h.2)) hs

theorem cutR_spec (e : Int) : ∀ (hs : List Rg) (b : Int), b <= e -> Asc hs -> Asc (cutR e b hs) /\ (∀ y, Cov (cutR e b hs) y ↔ (b <= y /\ y < e) /\ ¬ Cov hs y) /\ (∀ q ∈ cutR e b hs, b <= q.1 /\ q.1 + q.2 <= e)
 | [], b, hb, _ => by
  unfold cutR
  split
  ·refine ⟨⟨by dsimp only; omega, (fun s hs => by cases hs), trivial⟩, fun y => ?_, fun q hq => by simp at hq; rw [hq]; dsimp only; omega⟩
   rw [Cov_cons]
   dsimp only
   exact ⟨fun hh => by rcases hh with hh | hh; exact ⟨by omega, Cov_nil _⟩; exact absurd hh (Cov_nil _), fun hh => .inl (by omega)⟩
  ·exact ⟨trivial, fun y => ⟨fun hh => absurd hh (Cov_nil _), fun hh => by omega⟩, fun q hq => by cases hq⟩
 | h :: hs, b, hb, ha => by
  unfold cutR
  split
  ·rename_i hc
   obtain ⟨i1, i2, i3⟩ := cutR_spec e hs b hb ha.2.2
   refine ⟨i1, fun y => ?_, i3⟩
   rw [i2, Cov_cons]
   constructor
   ·rintro ⟨p, q⟩; exact ⟨p, fun hh => by rcases hh with hh | hh; omega; exact q hh⟩
   ·rintro ⟨p, q⟩; exact ⟨p, fun hh => q (.inr hh)⟩
  ·rename_i hc
   have hl := ha.1
   obtain ⟨i1, i2, i3⟩ := cutR_spec e hs (min e (h.1 + h.2)) (by omega) ha.2.2
   refine ⟨Asc.append ?_ i1 ?_, fun y => ?_, fun q hq => ?_⟩
   ·split
    ·exact ⟨by dsimp only; omega, (fun s hs => by cases hs), trivial⟩
    ·trivial
   ·intro p hp q hq
    split at hp
    ·simp at hp
     have := i3 q hq
     rw [hp]
     dsimp only
     omega
    ·cases hp
   ·rw [Cov_append, i2, Cov_cons]
    have htail : Cov hs y -> h.1 + h.2 < y := fun ⟨s, hs', hy⟩ => by have := ha.2.1 s hs'; omega
    constructor
    ·rintro (hy | ⟨hy, hn⟩)
     ·split at hy
      ·rcases Cov_cons.1 hy with hy | hy
       ·dsimp only at hy
        exact ⟨by omega, fun hh => by rcases hh with hh | hh; omega; have := htail hh; omega⟩
       ·exact absurd hy (Cov_nil _)
      ·exact absurd hy (Cov_nil _)
     ·exact ⟨by omega, fun hh => by rcases hh with hh | hh; omega; exact hn hh⟩
    ·rintro ⟨hy, hn⟩
     by_cases hlt : y < h.1
     ·left
      rw [if_pos (by omega)]
      exact Cov_cons.2 (.inl (by dsimp only; omega))
     ·right
      exact ⟨by have : ¬ (h.1 <= y /\ y < h.1 + h.2) := fun hh => hn (.inl hh); omega, fun hh => hn (.inr hh)⟩
   ·rcases List.mem_append.1 hq with hq | hq
    ·split at hq
     ·simp at hq; rw [hq]; dsimp only; omega
     ·cases hq
    ·have := i3 q hq; omega

theorem cutL_eq {l fixed : List Rg} (hl : ∀ x ∈ l, 1 <= x.2) (hf : ∀ x ∈ fixed, 1 <= x.2) : (mergeF l).flatMap (fun r => cutR (r.1 + r.2) r.1 (mergeF fixed)) = freeF l fixed := by
 obtain ⟨m1, m2, _⟩ := mergeF_spec hl
 obtain ⟨f1, f2, _⟩ := mergeF_spec hf
 obtain ⟨g1, g2⟩ := freeF_spec hl hf
 have key : ∀ (m : List Rg), Asc m -> Asc (m.flatMap (fun r => cutR (r.1 + r.2) r.1 (mergeF fixed))) /\ (∀ y, Cov (m.flatMap (fun r => cutR (r.1 + r.2) r.1 (mergeF fixed))) y ↔ Cov m y /\ ¬ Cov fixed y) /\ (∀ q ∈ m.flatMap (fun r => cutR (r.1 + r.2) r.1 (mergeF fixed)), ∃ r ∈ m, r.1 <= q.1 /\ q.1 + q.2 <= r.1 + r.2) := by
  intro m
  induction m with
  | nil => intro _; exact ⟨trivial, fun y => ⟨fun hh => absurd hh (Cov_nil _), fun hh => absurd hh.1 (Cov_nil _)⟩, fun q hq => by cases hq⟩
  | cons r m ih =>
   intro h
   obtain ⟨i1, i2, i3⟩ := ih h.2.2
   have hr := h.1
   obtain ⟨c1, c2, c3⟩ := cutR_spec (r.1 + r.2) (mergeF fixed) r.1 (by omega) f1
   rw [List.flatMap_cons]
   refine ⟨Asc.append c1 i1 (fun p hp q hq => ?_), fun y => ?_, fun q hq => ?_⟩
   ·obtain ⟨g, hg, hgq⟩ := i3 q hq
    have := c3 p hp
    have := h.2.1 g hg
    omega
   ·rw [Cov_append, c2, i2, Cov_cons, f2]
    constructor
    ·rintro (⟨a, b⟩ | ⟨a, b⟩)
     ·exact ⟨.inl a, b⟩
     ·exact ⟨.inr a, b⟩
    ·rintro ⟨a | a, b⟩
     ·exact .inl ⟨a, b⟩
     ·exact .inr ⟨a, b⟩
   ·rcases List.mem_append.1 hq with hq | hq
    ·exact ⟨r, by simp, c3 q hq⟩
    ·obtain ⟨g, hg, hgq⟩ := i3 q hq
     exact ⟨g, by simp [hg], hgq⟩
 obtain ⟨k1, k2, _⟩ := key _ m1
 exact asc_unique k1 g1 (fun y => by rw [k2, g2, m2])

end Go.Proofs.YtnhhncjflnlfaaaGreat
