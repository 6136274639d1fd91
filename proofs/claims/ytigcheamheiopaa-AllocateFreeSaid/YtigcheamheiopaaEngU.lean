/-
  The engine, part 3: small laws for the proofs over the shallow readings.
-/
import Derived.Test.YtigcheamheiopaaEngS
import Derived.Below
namespace Go.Eng

theorem iteB_intro {c : Bool} {A B : Prop} (h1 : c = true → A) (h2 : c = false → B) : iteB c A B := by
  cases c
  · exact h2 rfl
  · exact h1 rfl
theorem iteB_true {A B : Prop} : iteB true A B = A := rfl
theorem iteB_false {A B : Prop} : iteB false A B = B := rfl
theorem iteB_pos {c : Bool} {A B : Prop} (h : c = true) (hA : A) : iteB c A B := by subst h; exact hA
theorem iteB_neg {c : Bool} {A B : Prop} (h : c = false) (hB : B) : iteB c A B := by subst h; exact hB
theorem unSome_some {a : Addr} {K : Addr → Prop} : unSome (some a) K = K a := rfl
theorem unSome_mk {p : Option Addr} {a : Addr} {K : Addr → Prop} (h : p = some a) (hK : K a) : unSome p K := by subst h; exact hK
theorem letV_mk {x : Int} {k : Int → Prop} (y : Int) (h : x = y) (hk : k y) : letV x k := by subst h; exact hk
theorem letH_mk {x : Heap} {k : Heap → Prop} (h : ∀ y, y = x → k y) : letH x k := h x rfl

theorem add_mk (b o n : Nat) : (⟨b, o, none⟩ : Addr).add n = ⟨b, o + n, none⟩ := by
  unfold Addr.add
  split
  · rename_i h; subst h; rfl
  · rfl

theorem rd_mk {H : Heap} {b o : Nat} {c : Array Value} {e : TypeId} {f : Nat × Nat} (h : H[b]? = some (.cells c e f)) : rd H ⟨b, o, none⟩ = c[o]? := by
  simp [rd, h]

theorem rd_congr {H H' : Heap} {a : Addr} (h : H'[a.block]? = H[a.block]?) : rd H' a = rd H a := by simp [rd, h]

theorem okRow_mk {H : Heap} {b o n : Nat} {c : Array Value} {e : TypeId} (h : H[b]? = some (.cells c e (0, 0))) (hl : o + n ≤ c.size) : okRow H ⟨b, o, none⟩ n :=
  ⟨c, e, h, rfl, hl⟩

theorem wrs_size (H : Heap) (a : Addr) (vs : List Value) : (wrs H a vs).size = H.size := by simp [wrs]

theorem wrs_get {H : Heap} {b o : Nat} {s : Option Nat} {c : Array Value} {e : TypeId} {f : Nat × Nat} {vs : List Value} (h : H[b]? = some (.cells c e f)) :
    (wrs H ⟨b, o, s⟩ vs)[b]? = some (.cells (splice c o vs) e f) := by
  unfold wrs
  exact modify_get h

theorem wrs_ne {H : Heap} {a : Addr} {vs : List Value} {k : Nat} (h : k ≠ a.block) : (wrs H a vs)[k]? = H[k]? := by
  unfold wrs
  rw [Array.getElem?_modify, if_neg (fun e => h e.symm)]

theorem push_lt {H : Heap} {o : Obj} {k : Nat} (h : k < H.size) : (H.push o)[k]? = H[k]? := by
  rw [Array.getElem?_push, if_neg (by omega)]

theorem push_new (H : Heap) (o : Obj) : (H.push o)[H.size]? = some o := by simp

theorem get_lt {H : Heap} {b : Nat} {o : Obj} (h : H[b]? = some o) : b < H.size := by
  rcases Nat.lt_or_ge b H.size with h' | h'
  · exact h'
  · rw [Array.getElem?_eq_none h'] at h; cases h

/-- Only block 'b' of what was there may have changed. -/
structure Upd (b : Nat) (H H' : Heap) : Prop where
  size : H.size ≤ H'.size
  get : ∀ k, k < H.size → k ≠ b → H'[k]? = H[k]?

theorem Upd.refl (b : Nat) (H : Heap) : Upd b H H := ⟨Nat.le_refl _, fun _ _ _ => rfl⟩
theorem Upd.trans {b : Nat} {A B C : Heap} (h : Upd b A B) (k : Upd b B C) : Upd b A C :=
  ⟨Nat.le_trans h.size k.size, fun i hi hn => (k.get i (Nat.lt_of_lt_of_le hi h.size) hn).trans (h.get i hi hn)⟩
theorem Ext.upd {b : Nat} {H H' : Heap} (h : Ext H H') : Upd b H H' := ⟨h.size, fun k hk _ => h.get k hk⟩
theorem Upd.wrs {H : Heap} {a : Addr} {vs : List Value} : Upd a.block H (wrs H a vs) :=
  ⟨by rw [wrs_size]; exact Nat.le_refl _, fun _ _ hn => wrs_ne hn⟩
/-- What was there before block 'b' was made is as it was. -/
theorem Upd.ext {b : Nat} {A B C : Heap} (h : Ext A B) (k : Upd b B C) (hb : A.size ≤ b) : Ext A C :=
  ⟨Nat.le_trans h.size k.size, fun i hi => (k.get i (Nat.lt_of_lt_of_le hi h.size) (by omega)).trans (h.get i hi)⟩

/-- The cells from 'p' on hold 'vs'. -/
def Row (H : Heap) (p : Option Addr) (vs : List Value) : Prop :=
  vs = [] ∨ ∃ a, p = some a ∧ ∀ i v, vs[i]? = some v → rd H (a.add i) = some v

theorem Row.nil (H : Heap) (p : Option Addr) : Row H p [] := .inl rfl

theorem Row.get {H : Heap} {p : Option Addr} {vs : List Value} (h : Row H p vs) {i : Nat} {v : Value} (hi : vs[i]? = some v) :
    ∃ a, p = some a ∧ rd H (a.add i) = some v := by
  rcases h with rfl | ⟨a, rfl, hr⟩
  · simp at hi
  · exact ⟨a, rfl, hr i v hi⟩

theorem Row.ext {H H' : Heap} {p : Option Addr} {vs : List Value} (h : Row H p vs) (he : Ext H H') : Row H' p vs := by
  rcases h with rfl | ⟨a, rfl, hr⟩
  · exact .inl rfl
  · exact .inr ⟨a, rfl, fun i v hv => he.rd (hr i v hv)⟩

theorem add_block (a : Addr) (n : Nat) : (a.add n).block = a.block := by
  unfold Addr.add
  split <;> rfl

/-- The block of a slice. -/
def onBlock (p : Option Addr) (b : Nat) : Prop := ∃ a, p = some a ∧ a.block = b

theorem Row.upd {H H' : Heap} {p : Option Addr} {vs : List Value} {b : Nat} (h : Row H p vs) (he : Upd b H H') (hn : ¬ onBlock p b) : Row H' p vs := by
  rcases h with rfl | ⟨a, rfl, hr⟩
  · exact .inl rfl
  · refine .inr ⟨a, rfl, fun i v hv => ?_⟩
    have h1 := hr i v hv
    have hl := rd_lt h1
    rw [add_block] at hl
    rw [rd_congr (H := H), h1]
    rw [add_block]
    exact he.get _ hl (fun e => hn ⟨a, rfl, e⟩)

/-- A slice that reads as these numbers. -/
structure IsI (k : IntKind) (H : Heap) (s : Sl) (l : List Int) : Prop where
  len : s.n = l.length
  row : Row H s.p (l.map (.int k))

theorem IsI.nil (k : IntKind) (H : Heap) : IsI k H ⟨none, 0, 0⟩ [] := ⟨rfl, .inl rfl⟩
theorem IsI.ext {k : IntKind} {H H' : Heap} {s : Sl} {l : List Int} (h : IsI k H s l) (he : Ext H H') : IsI k H' s l := ⟨h.len, h.row.ext he⟩
theorem IsI.get {k : IntKind} {H : Heap} {s : Sl} {l : List Int} (h : IsI k H s l) {i : Nat} (hi : i < l.length) :
    ∃ a, s.p = some a ∧ rd H (a.add (i * 1)) = some (.int k l[i]) := by
  have : (l.map (Value.int k))[i]? = some (.int k l[i]) := by simp [hi]
  obtain ⟨a, h1, h2⟩ := h.row.get this
  exact ⟨a, h1, by rw [Nat.mul_one]; exact h2⟩

theorem Row.mk_blk {H : Heap} {b o : Nat} {c : Array Value} {e : TypeId} {f : Nat × Nat} {vs : List Value} (h : H[b]? = some (.cells c e f))
    (hv : ∀ i v, vs[i]? = some v → c[o + i]? = some v) : Row H (some ⟨b, o, none⟩) vs :=
  .inr ⟨_, rfl, fun i v hi => by rw [add_mk, rd_mk h]; exact hv i v hi⟩

theorem IsI.upd {k : IntKind} {H H' : Heap} {s : Sl} {l : List Int} {b : Nat} (h : IsI k H s l) (he : Upd b H H') (hn : ¬ onBlock s.p b) : IsI k H' s l := ⟨h.len, h.row.upd he hn⟩

/-- The slice lies in a block from 'n' on (or is nil). -/
def NewP (n : Nat) (p : Option Addr) : Prop := ∀ a, p = some a → n ≤ a.block
theorem NewP.none (n : Nat) : NewP n none := fun a h => by cases h
theorem NewP.off {n b : Nat} {p : Option Addr} (h : NewP n p) (hb : b < n) : ¬ onBlock p b := fun ⟨a, h1, h2⟩ => by have := h a h1; omega
theorem NewP.mono {n m : Nat} {p : Option Addr} (h : NewP n p) (hm : m ≤ n) : NewP m p := fun a ha => Nat.le_trans hm (h a ha)
theorem NewP.some {n : Nat} {a : Addr} (h : n ≤ a.block) : NewP n (some a) := fun x hx => by cases hx; exact h

/-- A slice literal. -/
theorem IsI.lit {k : IntKind} {H : Heap} {b n c : Nat} {e : TypeId} {f : Nat × Nat} {l : List Int} (h : H[b]? = some (.cells (l.map (Value.int k)).toArray e f)) (hn : n = l.length) :
    IsI k H ⟨some ⟨b, 0, none⟩, n, c⟩ l :=
  ⟨hn, Row.mk_blk h (fun i v hi => by simpa using hi)⟩

theorem below_of {w w' : World} (hs : Same w w') (he : Ext w.heap w'.heap) : RowKit.Below w.heap.size w w' :=
  ⟨hs.os, hs.tape, hs.output, he.size, he.get⟩

/-- From the engine's call to the model's. -/
theorem calls_true {P : Program} {f : FuncId} {args : Array Value} {w : World}
    (h : CallsH P f args w.heap (fun v H' => v = .bool true ∧ Ext w.heap H')) :
    Calls P f args w fun e w' => e = .returned (.bool true) ∧ RowKit.Below w.heap.size w w' :=
  (h w rfl).mono fun _ _ ⟨_, he, hs, hv, hx⟩ => ⟨by rw [he, hv], below_of hs hx⟩

theorem i64_in {n : Int} (h : -9223372036854775808 ≤ n ∧ n ≤ 9223372036854775807) : IntKind.i64.wrap n = n := IntWalk.i64_in n h
theorem u64_in {n : Int} (h : 0 ≤ n ∧ n ≤ 18446744073709551615) : IntKind.u64.wrap n = n := IntWalk.u64_in n h
theorem u64_wrap (n : Int) : IntKind.u64.wrap n = n % 18446744073709551616 := by
  simp [IntKind.wrap, IntKind.bits, IntKind.signed]
theorem u64_nonneg (n : Int) : 0 ≤ IntKind.u64.wrap n := by rw [u64_wrap]; omega
theorem u64_lt (n : Int) : IntKind.u64.wrap n < 18446744073709551616 := by rw [u64_wrap]; omega

end Go.Eng
