/-
 The engine, part 6: loops that count, elements at a natural index, whole numbers.
-/
import Derived.Test.YtnhhncjflnlfaaaGreatEngL
namespace Go.Eng

theorem IsS.atN {α : Type} {sz : Nat} {enc : α -> List Value} {H : Heap} {s : Sl} {l : List α} (h : IsS sz enc H s l) (d : α) {k : Nat} (hk : k < l.length) :
  ∃ a, s.p = some a /\ ∀ j v, (enc (l.getD k d))[j]? = some v -> rd H ((a.add ((k : Int).toNat * sz)).add j) = some v := by
 obtain ⟨a, hp, hr⟩ := h.get (i := k) (x := l.getD k d) (by simp [hk])
 exact ⟨a, hp, by simpa using hr⟩

theorem Ints.atN {k : IntKind} {H : Heap} {s : Sl} {l : List Int} (h : Ints k H s l) {i : Nat} (hi : i < l.length) :
  ∃ a, s.p = some a /\ rd H (a.add ((i : Int).toNat * 1)) = some (.int k (l.getD i 0)) := by
 obtain ⟨a, hp, hr⟩ := IsS.atN h 0 hi
 exact ⟨a, hp, hr 0 _ rfl⟩

theorem i64_succ {k : Nat} (h : k < 9223372036854775807) : IntKind.i64.wrap ((k : Int) + 1) = ((k + 1 : Nat) : Int) := by
 rw [i64_in (by omega)]; simp

def CI (n : Nat) (Inv : Nat -> Heap -> Prop) (x : Int) (H : Heap) : Prop := ∃ k : Nat, x = k /\ k <= n /\ Inv k H
def CI2 {α : Type} (n : Nat) (Inv : Nat -> α -> Heap -> Prop) (s : α) (x : Int) (H : Heap) : Prop := ∃ k : Nat, x = k /\ k <= n /\ Inv k s H
def CI3 {α β : Type} (n : Nat) (Inv : Nat -> α -> β -> Heap -> Prop) (s : α) (t : β) (x : Int) (H : Heap) : Prop := ∃ k : Nat, x = k /\ k <= n /\ Inv k s t H
def CI4 {α β γ : Type} (n : Nat) (Inv : Nat -> α -> β -> γ -> Heap -> Prop) (s : α) (t : β) (u : γ) (x : Int) (H : Heap) : Prop := ∃ k : Nat, x = k /\ k <= n /\ Inv k s t u H
def CM (n : Nat) (x : Int) (_ : Heap) : Nat := n - x.toNat
def CM2 {α : Type} (n : Nat) (_ : α) (x : Int) (_ : Heap) : Nat := n - x.toNat
def CM3 {α β : Type} (n : Nat) (_ : α) (_ : β) (x : Int) (_ : Heap) : Nat := n - x.toNat
def CM4 {α β γ : Type} (n : Nat) (_ : α) (_ : β) (_ : γ) (x : Int) (_ : Heap) : Nat := n - x.toNat

section
variable {α β γ : Type} {H : Heap}

theorem loop1 {Rd : (Int -> Heap -> Prop) -> (Int -> Heap -> Nat) -> Int -> Heap -> Prop} (n : Nat) (Inv : Nat -> Heap -> Prop) (h0 : Inv 0 H)
  (hr : ∀ (k : Nat) (H' : Heap), k <= n -> Inv k H' -> Rd (CI n Inv) (CM n) k H') : ∃ I : Int -> Heap -> Prop, ∃ M : Int -> Heap -> Nat, I 0 H /\ (∀ x : Int, ∀ H' : Heap, I x H' -> Rd I M x H') :=
 ⟨CI n Inv, CM n, ⟨0, rfl, Nat.zero_le _, h0⟩, by rintro x H' ⟨k, rfl, hk, hi⟩; exact hr k H' hk hi⟩

theorem loop2 {Rd : (α -> Int -> Heap -> Prop) -> (α -> Int -> Heap -> Nat) -> α -> Int -> Heap -> Prop} {s0 : α} (n : Nat) (Inv : Nat -> α -> Heap -> Prop) (h0 : Inv 0 s0 H)
  (hr : ∀ (k : Nat) (s : α) (H' : Heap), k <= n -> Inv k s H' -> Rd (CI2 n Inv) (CM2 n) s k H') : ∃ I : α -> Int -> Heap -> Prop, ∃ M : α -> Int -> Heap -> Nat, I s0 0 H /\ (∀ s : α, ∀ x : Int, ∀ H' : Heap, I s x H' -> Rd I M s x H') :=
 ⟨CI2 n Inv, CM2 n, ⟨0, rfl, Nat.zero_le _, h0⟩, by rintro s x H' ⟨k, rfl, hk, hi⟩; exact hr k s H' hk hi⟩

theorem loop3 {Rd : (α -> β -> Int -> Heap -> Prop) -> (α -> β -> Int -> Heap -> Nat) -> α -> β -> Int -> Heap -> Prop} {s0 : α} {t0 : β} (n : Nat) (Inv : Nat -> α -> β -> Heap -> Prop) (h0 : Inv 0 s0 t0 H)
  (hr : ∀ (k : Nat) (s : α) (t : β) (H' : Heap), k <= n -> Inv k s t H' -> Rd (CI3 n Inv) (CM3 n) s t k H') : ∃ I : α -> β -> Int -> Heap -> Prop, ∃ M : α -> β -> Int -> Heap -> Nat, I s0 t0 0 H /\ (∀ s : α, ∀ t : β, ∀ x : Int, ∀ H' : Heap, I s t x H' -> Rd I M s t x H') :=
 ⟨CI3 n Inv, CM3 n, ⟨0, rfl, Nat.zero_le _, h0⟩, by rintro s t x H' ⟨k, rfl, hk, hi⟩; exact hr k s t H' hk hi⟩

theorem loop4 {Rd : (α -> β -> γ -> Int -> Heap -> Prop) -> (α -> β -> γ -> Int -> Heap -> Nat) -> α -> β -> γ -> Int -> Heap -> Prop} {s0 : α} {t0 : β} {u0 : γ} (n : Nat) (Inv : Nat -> α -> β -> γ -> Heap -> Prop) (h0 : Inv 0 s0 t0 u0 H)
  (hr : ∀ (k : Nat) (s : α) (t : β) (u : γ) (H' : Heap), k <= n -> Inv k s t u H' -> Rd (CI4 n Inv) (CM4 n) s t u k H') : ∃ I : α -> β -> γ -> Int -> Heap -> Prop, ∃ M : α -> β -> γ -> Int -> Heap -> Nat, I s0 t0 u0 0 H /\ (∀ s : α, ∀ t : β, ∀ u : γ, ∀ x : Int, ∀ H' : Heap, I s t u x H' -> Rd I M s t u x H') :=
 ⟨CI4 n Inv, CM4 n, ⟨0, rfl, Nat.zero_le _, h0⟩, by rintro s t u x H' ⟨k, rfl, hk, hi⟩; exact hr k s t u H' hk hi⟩

variable {n k : Nat} {H' H'' : Heap}

theorem ci_lt (hk : k < n) : n - (((k + 1 : Nat) : Int)).toNat < n - ((k : Nat) : Int).toNat := by simp only [Int.toNat_natCast]; omega

theorem next1 {Inv : Nat -> Heap -> Prop} (hk : k < n) (hn : n <= 9223372036854775807) (h : Inv (k + 1) H') :
  CI n Inv (IntKind.i64.wrap ((k : Int) + 1)) H' /\ CM n (IntKind.i64.wrap ((k : Int) + 1)) H' < CM n (k : Int) H'' := by
 rw [i64_succ (by omega)]; exact ⟨⟨k + 1, rfl, by omega, h⟩, ci_lt hk⟩
theorem next2 {Inv : Nat -> α -> Heap -> Prop} {s s' : α} (hk : k < n) (hn : n <= 9223372036854775807) (h : Inv (k + 1) s' H') :
  CI2 n Inv s' (IntKind.i64.wrap ((k : Int) + 1)) H' /\ CM2 n s' (IntKind.i64.wrap ((k : Int) + 1)) H' < CM2 n s (k : Int) H'' := by
 rw [i64_succ (by omega)]; exact ⟨⟨k + 1, rfl, by omega, h⟩, ci_lt hk⟩
theorem next3 {Inv : Nat -> α -> β -> Heap -> Prop} {s s' : α} {t t' : β} (hk : k < n) (hn : n <= 9223372036854775807) (h : Inv (k + 1) s' t' H') :
  CI3 n Inv s' t' (IntKind.i64.wrap ((k : Int) + 1)) H' /\ CM3 n s' t' (IntKind.i64.wrap ((k : Int) + 1)) H' < CM3 n s t (k : Int) H'' := by
 rw [i64_succ (by omega)]; exact ⟨⟨k + 1, rfl, by omega, h⟩, ci_lt hk⟩
theorem next4 {Inv : Nat -> α -> β -> γ -> Heap -> Prop} {s s' : α} {t t' : β} {u u' : γ} (hk : k < n) (hn : n <= 9223372036854775807) (h : Inv (k + 1) s' t' u' H') :
  CI4 n Inv s' t' u' (IntKind.i64.wrap ((k : Int) + 1)) H' /\ CM4 n s' t' u' (IntKind.i64.wrap ((k : Int) + 1)) H' < CM4 n s t u (k : Int) H'' := by
 rw [i64_succ (by omega)]; exact ⟨⟨k + 1, rfl, by omega, h⟩, ci_lt hk⟩

end

theorem push_mk {e : TypeId} {vs : List Value} {K : Heap -> Prop} {H : Heap} (h : ∀ H', Ext H H' -> H'.size = H.size + 1 -> Blk H' H.size e vs -> K H') :
  letH (H.push (.cells vs.toArray e (0, 0))) K :=
 letH_mk (by rintro H1 rfl; exact h _ (Ext.push _ _) (by simp) (Blk.new _ _ _))

theorem iteB_dec {p : Prop} [Decidable p] {A B : Prop} (h1 : p -> A) (h2 : ¬ p -> B) : iteB (decide p) A B :=
 iteB_intro (fun c => h1 (by simpa using c)) (fun c => h2 (by simpa using c))
theorem iteB_beq {x y : Int} {A B : Prop} (h1 : x = y -> A) (h2 : x ≠ y -> B) : iteB (x == y) A B :=
 iteB_intro (fun c => h1 (by simpa using c)) (fun c => h2 (by simpa using c))
theorem iteB_bne {x y : Int} {A B : Prop} (h1 : x ≠ y -> A) (h2 : x = y -> B) : iteB (x != y) A B :=
 iteB_intro (fun c => h1 (by simpa using c)) (fun c => h2 (by simpa using c))
theorem iteB_not {b : Bool} {A B : Prop} (h1 : b = false -> A) (h2 : b = true -> B) : iteB (!b) A B :=
 iteB_intro (fun c => h1 (by simpa using c)) (fun c => h2 (by simpa using c))

theorem Own.rb {α : Type} {enc : α -> List Value} {sz lo : Nat} {e : TypeId} {H : Heap} {s : Sl} {l : List α} (he : ∀ x, (enc x).length = sz) (hsz : 0 < sz) (h : Own lo e sz H s (l.flatMap enc)) :
  s.n = l.length /\ ((l = [] /\ s = ⟨none, 0, 0⟩) \/ ∃ g, s.p = some ⟨g, 0, none⟩ /\ lo <= g /\ RB H g e sz enc l) := by
 obtain ⟨h1, h2⟩ := h.cases
 have hn : s.n = l.length := by
  rw [flat_len he] at h1
  exact (Nat.eq_of_mul_eq_mul_right hsz h1).symm
 refine ⟨hn, ?_⟩
 rcases h2 with ⟨rfl, hx⟩ | ⟨g, cur, hp, hg, hb, hc, hs, ht⟩
 ·exact .inl ⟨List.eq_nil_of_length_eq_zero hn.symm, rfl⟩
 ·refine .inr ⟨g, hp, hg, he, cur.toList.drop (s.n * sz), ?_⟩
  unfold Blk
  rw [hb, <- ht, List.take_append_drop]

theorem Own.of_blk {lo g n : Nat} {e : TypeId} {sz : Nat} {H : Heap} {xs : List Value} (h : Blk H g e xs) (hl : xs.length = n * sz) (hg : lo <= g) (hn : n <= maxLen) : Own lo e sz H ⟨some ⟨g, 0, none⟩, n, n⟩ xs :=
 ⟨hl, .inr ⟨g, n, xs.toArray, rfl, hg, h, Nat.le_refl _, hn, by simpa using hl, by simp [<- hl]⟩⟩

/-! ### reading by 'simp only': the facts 'rd H a = some ..' and these -/
theorem Mods.keeps {S : List Nat} {H H' : Heap} (h : Mods S H H') {l : List (Addr × Nat)} (hn : ∀ p ∈ l, p.1.block ∉ S) : Keeps H H' l := by
 intro p hp j v _ hr
 exact h.rd hr (by rw [add_block]; exact hn p hp)

def BoolP (b : Bool) (H : Heap) (v : Value) (H' : Heap) : Prop := v = .bool b /\ Ext H H'
end Go.Eng
