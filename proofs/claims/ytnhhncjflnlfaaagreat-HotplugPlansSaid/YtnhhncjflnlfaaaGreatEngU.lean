/-
 The engine, part 3: small laws for the proofs over the shallow readings.
-/
import Derived.Test.YtnhhncjflnlfaaaGreatEngS
import Derived.Below
namespace Go.Eng

theorem iteB_intro {c : Bool} {A B : Prop} (h1 : c = true -> A) (h2 : c = false -> B) : iteB c A B := by
 cases c
 ·exact h2 rfl
 ·exact h1 rfl
theorem iteB_pos {c : Bool} {A B : Prop} (h : c = true) (hA : A) : iteB c A B := by subst h; exact hA
theorem iteB_neg {c : Bool} {A B : Prop} (h : c = false) (hB : B) : iteB c A B := by subst h; exact hB
theorem unSome_mk {p : Option Addr} {a : Addr} {K : Addr -> Prop} (h : p = some a) (hK : K a) : unSome p K := by subst h; exact hK
theorem letV_mk {x : Int} {k : Int -> Prop} (y : Int) (h : x = y) (hk : k y) : letV x k := by subst h; exact hk
theorem letH_mk {x : Heap} {k : Heap -> Prop} (h : ∀ y, y = x -> k y) : letH x k := h x rfl

theorem add_mk (b o n : Nat) : (⟨b, o, none⟩ : Addr).add n = ⟨b, o + n, none⟩ := by
 unfold Addr.add
 split
 ·rename_i h; subst h; rfl
 ·rfl

theorem rd_mk {H : Heap} {b o : Nat} {c : Array Value} {e : TypeId} {f : Nat × Nat} (h : H[b]? = some (.cells c e f)) : rd H ⟨b, o, none⟩ = c[o]? := by
 simp [rd, h]

theorem rd_congr {H H' : Heap} {a : Addr} (h : H'[a.block]? = H[a.block]?) : rd H' a = rd H a := by simp [rd, h]

theorem okRow_mk {H : Heap} {b o n : Nat} {c : Array Value} {e : TypeId} (h : H[b]? = some (.cells c e (0, 0))) (hl : o + n <= c.size) : okRow H ⟨b, o, none⟩ n :=
 ⟨c, e, h, rfl, hl⟩

theorem wrs_size (H : Heap) (a : Addr) (vs : List Value) : (wrs H a vs).size = H.size := by simp [wrs]

theorem wrs_get {H : Heap} {b o : Nat} {s : Option Nat} {c : Array Value} {e : TypeId} {f : Nat × Nat} {vs : List Value} (h : H[b]? = some (.cells c e f)) :
  (wrs H ⟨b, o, s⟩ vs)[b]? = some (.cells (splice c o vs) e f) := by
 unfold wrs
 exact modify_get h

theorem wrs_ne {H : Heap} {a : Addr} {vs : List Value} {k : Nat} (h : k ≠ a.block) : (wrs H a vs)[k]? = H[k]? := by
 unfold wrs
 rw [Array.getElem?_modify, if_neg (fun e => h e.symm)]

theorem push_lt {H : Heap} {o : Obj} {k : Nat} (h : k < H.size) : (H.push o)[k]? = H[k]? := by
 rw [Array.getElem?_push, if_neg (by omega)]

theorem push_new (H : Heap) (o : Obj) : (H.push o)[H.size]? = some o := by simp

theorem get_lt {H : Heap} {b : Nat} {o : Obj} (h : H[b]? = some o) : b < H.size := by
 rcases Nat.lt_or_ge b H.size with h' | h'
 ·exact h'
 ·rw [Array.getElem?_eq_none h'] at h; cases h

structure Upd (b : Nat) (H H' : Heap) : Prop where
 size : H.size <= H'.size
 get : ∀ k, k < H.size -> k ≠ b -> H'[k]? = H[k]?

theorem Upd.wrs {H : Heap} {a : Addr} {vs : List Value} : Upd a.block H (wrs H a vs) :=
 ⟨by rw [wrs_size]; exact Nat.le_refl _, fun _ _ hn => wrs_ne hn⟩
theorem Upd.ext {b : Nat} {A B C : Heap} (h : Ext A B) (k : Upd b B C) (hb : A.size <= b) : Ext A C :=
 ⟨Nat.le_trans h.size k.size, fun i hi => (k.get i (Nat.lt_of_lt_of_le hi h.size) (by omega)).trans (h.get i hi)⟩

theorem add_block (a : Addr) (n : Nat) : (a.add n).block = a.block := by
 unfold Addr.add
 split <;> rfl

def NewP (n : Nat) (p : Option Addr) : Prop := ∀ a, p = some a -> n <= a.block
theorem NewP.none (n : Nat) : NewP n none := fun a h => by cases h
theorem NewP.some {n : Nat} {a : Addr} (h : n <= a.block) : NewP n (some a) := fun x hx => by cases hx; exact h

theorem below_of {w w' : World} (hs : Same w w') (he : Ext w.heap w'.heap) : RowKit.Below w.heap.size w w' :=
 ⟨hs.os, hs.tape, hs.output, he.size, he.get⟩

theorem calls_true {P : Program} {f : FuncId} {args : Array Value} {w : World}
  (h : CallsH P f args w.heap (fun v H' => v = .bool true /\ Ext w.heap H')) :
  Calls P f args w fun e w' => e = .returned (.bool true) /\ RowKit.Below w.heap.size w w' :=
 (h w rfl).mono fun _ _ ⟨_, he, hs, hv, hx⟩ => ⟨by rw [he, hv], below_of hs hx⟩

theorem i64_in {n : Int} (h : -9223372036854775808 <= n /\ n <= 9223372036854775807) : IntKind.i64.wrap n = n := IntWalk.i64_in n h
theorem u64_in {n : Int} (h : 0 <= n /\ n <= 18446744073709551615) : IntKind.u64.wrap n = n := IntWalk.u64_in n h
theorem u64_wrap (n : Int) : IntKind.u64.wrap n = n % 18446744073709551616 := by
 simp [IntKind.wrap, IntKind.bits, IntKind.signed]
theorem u64_nonneg (n : Int) : 0 <= IntKind.u64.wrap n := by rw [u64_wrap]; omega
theorem u64_lt (n : Int) : IntKind.u64.wrap n < 18446744073709551616 := by rw [u64_wrap]; omega

end Go.Eng
