/-
 The engine, part 8: a map from pairs of integers to truth values, used as a set.
-/
import Derived.DeepKeys3
import Derived.Test.YtnhhncjflnlfaaaGreatEngM
namespace Go.Eng

abbrev prV (a b : Int) : Value := .agg #[.int .i64 a, .int .i64 b]
def In64 (a : Int) : Prop := -9223372036854775808 <= a /\ a <= 9223372036854775807

structure PairKey (P : Program) (kt : TypeId) : Prop where
 law : WideMaps.KeyLaw P kt
 key : ∀ a b, In64 a -> In64 b -> ∃ l, keyOf P kt (prV a b) = some l

theorem wf_i64 {a : Int} (h : In64 a) : (Lit.int .i64 a).wf = true := by
 unfold In64 at h
 simp [Lit.wf, IntKind.min, IntKind.max, IntKind.bits, IntKind.signed]
 omega

theorem pairKey_arr {P : Program} {kt e : TypeId} (h : P.underlying kt = some (.array 2 e)) (he : P.underlying e = some (.int .i64)) (h1 : P.cellsOf e = 1) (h2 : P.cellsOf kt = 2) (hk : P.keyType kt = true) (hk2 : P.keyTypeAt 2 kt = true) (ht : P.tiled 2 kt = true)
  (hn : Nat.ble 1 P.types.size = true) : PairKey P kt := by
 refine ⟨deep_law (m := 2) (by omega) hk2 ht (by rw [h]), fun a b ha hb => ?_⟩
 obtain ⟨n, hn'⟩ : ∃ n, P.types.size = n + 1 := ⟨P.types.size - 1, by have := Nat.le_of_ble_eq_true hn; omega⟩
 have wa := wf_i64 ha
 have wb := wf_i64 hb
 have hl : ∀ x, (Lit.int .i64 x).wf = true -> P.keyLits (n + 1) e [.int .i64 x] = some [.int .i64 x] := fun x hx => by simp [Program.keyLits, he, hx]
 unfold keyOf
 simp only [h]
 rw [if_pos (by simp [hk, Value.formed, h, h2])]
 rw [hn']
 have : P.keyLits (n + 1 + 1) kt (prV a b).cells.toList = some [.int .i64 a, .int .i64 b] := by
  rw [Program.keyLits.eq_def]
  simp only [h, h1, h2, Value.cells]
  simp [List.range, List.range.loop, hl a wa, hl b wb]
 exact ⟨_, by rw [this]; rfl⟩

theorem pairKey_str {P : Program} {kt e e' : TypeId} {fs : Array Field} (h : P.underlying kt = some (.struct fs)) (he : P.underlying e = some (.int .i64)) (he' : P.underlying e' = some (.int .i64)) (h1 : P.cellsOf e = 1) (h1' : P.cellsOf e' = 1) (h2 : P.cellsOf kt = 2) (hk : P.keyType kt = true) (hk2 : P.keyTypeAt 2 kt = true) (ht : P.tiled 2 kt = true)
  (hfs : fs.toList.map (fun f => (f.offset, f.type)) = [(0, e), (1, e')]) (hnm : (fs.all (·.name != "_")) = true) (hn : Nat.ble 1 P.types.size = true) : PairKey P kt := by
 refine ⟨deep_law (m := 2) (by omega) hk2 ht (by rw [h]), fun a b ha hb => ?_⟩
 obtain ⟨n, hn'⟩ : ∃ n, P.types.size = n + 1 := ⟨P.types.size - 1, by have := Nat.le_of_ble_eq_true hn; omega⟩
 have wa := wf_i64 ha
 have wb := wf_i64 hb
 have hl : ∀ x, (Lit.int .i64 x).wf = true -> P.keyLits (n + 1) e [.int .i64 x] = some [.int .i64 x] := fun x hx => by simp [Program.keyLits, he, hx]
 have hl' : ∀ x, (Lit.int .i64 x).wf = true -> P.keyLits (n + 1) e' [.int .i64 x] = some [.int .i64 x] := fun x hx => by simp [Program.keyLits, he', hx]
 obtain ⟨f0, f1, hf⟩ : ∃ f0 f1, fs.toList = [f0, f1] := by
  have : (fs.toList.map (fun f => (f.offset, f.type))).length = 2 := by rw [hfs]; rfl
  rw [List.length_map] at this
  match hq : fs.toList, this with
  | [f0, f1], _ => exact ⟨f0, f1, rfl⟩
 rw [hf] at hfs
 simp only [List.map_cons, List.map_nil, List.cons.injEq, Prod.mk.injEq, and_true] at hfs
 obtain ⟨⟨o0, t0⟩, o1, t1⟩ := hfs
 unfold keyOf
 simp only [h]
 rw [if_pos (by simp [hk, Value.formed, h, h2])]
 rw [hn']
 have : P.keyLits (n + 1 + 1) kt (prV a b).cells.toList = some [.int .i64 a, .int .i64 b] := by
  rw [Program.keyLits.eq_def]
  simp only [h, h2, Value.cells]
  rw [if_pos ⟨rfl, hnm⟩, hf]
  simp [o0, o1, t0, t1, h1, h1', hl a wa, hl' b wb]
 exact ⟨_, by rw [this]; rfl⟩

def intB (P : Program) (e : TypeId) : Bool := match P.underlying e with
 | some (.int k) => decide (k = .i64)
 | _ => false

def isPair (P : Program) (kt : TypeId) : Bool :=
 P.keyType kt && P.keyTypeAt 2 kt && P.tiled 2 kt && Nat.ble 1 P.types.size && Nat.beq (P.cellsOf kt) 2 &&
 match P.underlying kt with
 | some (.array n e) => Nat.beq n 2 && intB P e && Nat.beq (P.cellsOf e) 1
 | some (.struct fs) => fs.all (·.name != "_") && match fs.toList with
  | [f, g] => Nat.beq f.offset 0 && Nat.beq g.offset 1 && intB P f.type && intB P g.type && Nat.beq (P.cellsOf f.type) 1 && Nat.beq (P.cellsOf g.type) 1
  | _ => false
 | _ => false

theorem intB_elim {P : Program} {e : TypeId} (h : intB P e = true) : P.underlying e = some (.int .i64) := by
 unfold intB at h
 split at h
 ·rename_i k hk
  rw [hk, of_decide_eq_true h]
 ·cases h

theorem pairKey_of {P : Program} {kt : TypeId} (h : isPair P kt = true) : PairKey P kt := by
 unfold isPair at h
 simp only [Bool.and_eq_true] at h
 obtain ⟨⟨⟨⟨⟨h1, h2⟩, h3⟩, h4⟩, h5⟩, h6⟩ := h
 have h5' := Nat.eq_of_beq_eq_true h5
 split at h6
 ·rename_i n e hu
  simp only [Bool.and_eq_true] at h6
  obtain ⟨⟨a1, a2⟩, a3⟩ := h6
  have := Nat.eq_of_beq_eq_true a1
  subst this
  exact pairKey_arr hu (intB_elim a2) (Nat.eq_of_beq_eq_true a3) h5' h1 h2 h3 h4
 ·rename_i fs hu
  simp only [Bool.and_eq_true] at h6
  obtain ⟨hnm, h7⟩ := h6
  split at h7
  ·rename_i f g hf
   simp only [Bool.and_eq_true] at h7
   obtain ⟨⟨⟨⟨⟨a1, a2⟩, a3⟩, a4⟩, a5⟩, a6⟩ := h7
   exact pairKey_str hu (intB_elim a3) (intB_elim a4) (Nat.eq_of_beq_eq_true a5) (Nat.eq_of_beq_eq_true a6) h5' h1 h2 h3 (by rw [hf]; simp [Nat.eq_of_beq_eq_true a1, Nat.eq_of_beq_eq_true a2]) hnm h4
  ·cases h7
 ·cases h6

def PSet (H : Heap) (r : Nat) (ks : List (Int × Int)) : Prop :=
 ∃ es clock, H[r]? = some (.map es clock) /\ es.toList.map (fun e => (e.key, e.val)) = ks.map (fun k => (prV k.1 k.2, Value.bool true)) /\ ∀ k ∈ ks, In64 k.1 /\ In64 k.2

theorem PSet.lt {H : Heap} {r : Nat} {ks : List (Int × Int)} (h : PSet H r ks) : r < H.size := by
 obtain ⟨es, c, h1, _⟩ := h
 exact get_lt h1
theorem PSet.ext {H H' : Heap} {r : Nat} {ks : List (Int × Int)} (h : PSet H r ks) (e : Ext H H') : PSet H' r ks := by
 have hl := h.lt
 obtain ⟨es, c, h1, h2⟩ := h
 exact ⟨es, c, by rw [e.get r hl]; exact h1, h2⟩
theorem PSet.mods {H H' : Heap} {r : Nat} {ks : List (Int × Int)} {S : List Nat} (h : PSet H r ks) (e : Mods S H H') (hr : r ∉ S) : PSet H' r ks := by
 have hl := h.lt
 obtain ⟨es, c, h1, h2⟩ := h
 exact ⟨es, c, by rw [e.get r hl hr]; exact h1, h2⟩
theorem PSet.new (H : Heap) : PSet (H.push (.map #[] 0)) H.size [] := ⟨#[], 0, push_new _ _, rfl, by simp⟩

theorem psKeys {ks : List (Int × Int)} {es : Array MapEntry} (h : es.toList.map (fun e => (e.key, e.val)) = ks.map (fun k => (prV k.1 k.2, Value.bool true))) : ∀ e ∈ es.toList, ∃ k ∈ ks, e.key = prV k.1 k.2 /\ e.val = .bool true := by
 intro e he
 have : (e.key, e.val) ∈ ks.map (fun k => (prV k.1 k.2, Value.bool true)) := by rw [<- h]; exact List.mem_map.2 ⟨e, he, rfl⟩
 obtain ⟨k, hk, hke⟩ := List.mem_map.1 this
 simp only [Prod.mk.injEq] at hke
 exact ⟨k, hk, hke.1.symm, hke.2.symm⟩

theorem prV_inj {a b c d : Int} (h : prV a b = prV c d) : (a, b) = (c, d) := by
 simp at h
 rw [h.1, h.2]

theorem lookup_ps {P : Program} {t kt et : TypeId} {H : Heap} {r : Nat} {ks : List (Int × Int)} {a b : Int} {K : Value -> Heap -> Prop} (L : PairKey P kt) (ht : P.underlying t = some (.map kt et)) (hz : zeroT P et = some (.bool false)) (h : PSet H r ks) (ha : In64 a) (hb : In64 b)
  (hK : K (.bool (decide ((a, b) ∈ ks))) H) : runH P (Instr.lookup t (.map (some r)) (prV a b) false) H K := by
 intro w hw
 subst hw
 obtain ⟨es, c, h1, h2, h3⟩ := h
 obtain ⟨l, hl⟩ := L.key a b ha hb
 have hk := psKeys h2
 have hall : ∀ e ∈ es.toList, ∃ l, keyOf P kt e.key = some l := fun e he => by
  obtain ⟨k, hk1, hk2, _⟩ := hk e he
  rw [hk2]
  exact L.key _ _ (h3 k hk1).1 (h3 k hk1).2
 have hzv : (zeroValue et).run P w = .ok (.bool false) w := by
  unfold zeroT at hz
  cases hi : P.info? et with
  | none => rw [hi] at hz; cases hz
  | some i => rw [hi] at hz; simp at hz; simp [zeroValue, typeInfo, hi, hz]
 rcases L.law.find w hl es.toList hall with ⟨f1, f2⟩ | ⟨j, e0, f1, f2, f3⟩
 ·have hno : (a, b) ∉ ks := by
   intro hm
   have : (prV a b, Value.bool true) ∈ es.toList.map (fun e => (e.key, e.val)) := by rw [h2]; exact List.mem_map.2 ⟨(a, b), hm, rfl⟩
   obtain ⟨e, he, hee⟩ := List.mem_map.1 this
   simp only [Prod.mk.injEq] at hee
   exact f2 e he hee.1
  refine ⟨.bool false, w, ?_, .refl w, ?_⟩
  ·simp [Instr.lookup, run_underlying ht, MapKept.run_getObj_map h1, L.law.check w _ hl, f1, hzv, Result.andThen]
  ·rw [decide_eq_false hno] at hK; exact hK
 ·have he0 : e0 ∈ es.toList := List.mem_of_getElem? f2
  obtain ⟨k, hk1, hk2, hk3⟩ := hk e0 he0
  have hyes : (a, b) ∈ ks := by
   rw [f3] at hk2
   rw [prV_inj hk2]
   exact hk1
  refine ⟨.bool true, w, ?_, .refl w, ?_⟩
  ·simp [Instr.lookup, run_underlying ht, MapKept.run_getObj_map h1, L.law.check w _ hl, f1, Result.andThen, hk3]
  ·rw [decide_eq_true hyes] at hK; exact hK

theorem update_ps {P : Program} {t kt et : TypeId} {H : Heap} {r : Nat} {ks : List (Int × Int)} {a b : Int} {K : Unit -> Heap -> Prop} (L : PairKey P kt) (ht : P.underlying t = some (.map kt et)) (h : PSet H r ks) (ha : In64 a) (hb : In64 b) (hno : (a, b) ∉ ks)
  (hK : ∀ H', PSet H' r (ks ++ [(a, b)]) -> Mods [r] H H' -> H'.size = H.size -> K () H') : runH P (Instr.mapUpdate t (.map (some r)) (prV a b) (.bool true)) H K := by
 intro w hw
 subst hw
 have hlt := h.lt
 obtain ⟨es, c, h1, h2, h3⟩ := h
 obtain ⟨l, hl⟩ := L.key a b ha hb
 have hk := psKeys h2
 have hall : ∀ e ∈ es.toList, ∃ l, keyOf P kt e.key = some l := fun e he => by
  obtain ⟨k, hk1, hk2, _⟩ := hk e he
  rw [hk2]
  exact L.key _ _ (h3 k hk1).1 (h3 k hk1).2
 rcases L.law.find w hl es.toList hall with ⟨f1, f2⟩ | ⟨j, e0, f1, f2, f3⟩
 ·refine ⟨(), { w with heap := w.heap.setIfInBounds r (.map (es.push ⟨prV a b, .bool true, c⟩) (c + 1)) }, ?_, ⟨rfl, rfl, rfl⟩, hK _ ⟨es.push ⟨prV a b, .bool true, c⟩, c + 1, ?_, ?_, ?_⟩ ⟨?_, fun k hk hkn => ?_⟩ ?_⟩
  ·simp [Instr.mapUpdate, run_underlying ht, MapKept.run_getObj_map h1, L.law.check w _ hl, f1, MapKept.run_setObj_map _ h1, Result.andThen]
  ·simp [hlt]
  ·simp [h2]
  ·intro k hk
   simp only [List.mem_append, List.mem_singleton] at hk
   rcases hk with hk | rfl
   ·exact h3 k hk
   ·exact ⟨ha, hb⟩
  ·simp
  ·rw [Array.getElem?_setIfInBounds, if_neg (by simp at hkn; omega)]
  ·simp
 ·exfalso
  have he0 : e0 ∈ es.toList := List.mem_of_getElem? f2
  obtain ⟨k, hk1, hk2, hk3⟩ := hk e0 he0
  rw [f3] at hk2
  exact hno (by rw [prV_inj hk2]; exact hk1)

end Go.Eng
