/-
 The engine: arrays of truth values.
-/
import Derived.Test.YtnhhncjflnlfaaaGreatEngM
namespace Go.Eng

def BBlk (H : Heap) (b : Nat) (e : TypeId) (n : Nat) (f : Nat -> Bool) : Prop := Blk H b e (tab n (fun i => Value.bool (f i)))

section
variable {H H' : Heap} {b n : Nat} {e : TypeId} {f g : Nat -> Bool}
theorem BBlk.lt (h : BBlk H b e n f) : b < H.size := Blk.lt h
theorem BBlk.ext (h : BBlk H b e n f) (he : Ext H H') : BBlk H' b e n f := Blk.ext h he
theorem BBlk.mods {S : List Nat} (h : BBlk H b e n f) (he : Mods S H H') (hb : b ∉ S) : BBlk H' b e n f := Blk.mods h he hb
theorem BBlk.congr (h : BBlk H b e n f) (hg : ∀ i, i < n -> f i = g i) : BBlk H b e n g := by
 unfold BBlk at *
 rw [tab_congr (fun i hi => by rw [<- hg i hi])]
 exact h
theorem BBlk.rd (h : BBlk H b e n f) {i : Nat} (hi : i < n) : Eng.rd H ((⟨b, 0, none⟩ : Addr).add (i * 1)) = some (.bool (f i)) := by
 rw [Nat.mul_one]
 exact Blk.rd h (tab_get hi)
theorem BBlk.ok (h : BBlk H b e n f) {i : Nat} (hi : i < n) : okRow H ((⟨b, 0, none⟩ : Addr).add (i * 1)) 1 := by
 rw [Nat.mul_one]
 exact Blk.ok h (by rw [tab_length]; omega)
theorem BBlk.wr (h : BBlk H b e n f) {i : Nat} (hi : i < n) (v : Bool) : BBlk (wrs H ((⟨b, 0, none⟩ : Addr).add (i * 1)) [.bool v]) b e n (upd f i v) := by
 have := Blk.wr1 h (i := i) (w := .bool v)
 rw [Nat.mul_one]
 rw [tab_set hi] at this
 unfold BBlk
 rw [tab_congr (g := upd (fun i => Value.bool (f i)) i (.bool v))]
 ·exact this
 ·intro j hj
  unfold upd
  split <;> rfl
theorem BBlk.of (h : Blk H b e (List.replicate n (.bool false))) : BBlk H b e n (fun _ => false) := by
 unfold BBlk
 rw [<- tab_replicate]
 exact h
end

end Go.Eng
