/-
 The engine, part 4: blocks, slices of plain data, local variables, append and make, for the proofs over the shallow readings.
-/
import Derived.Test.YtnhhncjflnlfaaaGreatEngU
namespace Go.Eng

def Blk (H : Heap) (b : Nat) (e : TypeId) (vs : List Value) : Prop := H[b]? = some (.cells vs.toArray e (0, 0))

theorem Blk.lt {H : Heap} {b : Nat} {e : TypeId} {vs : List Value} (h : Blk H b e vs) : b < H.size := get_lt h
theorem Blk.rd {H : Heap} {b i : Nat} {e : TypeId} {vs : List Value} {v : Value} (h : Blk H b e vs) (hi : vs[i]? = some v) : Eng.rd H ((⟨b, 0, none⟩ : Addr).add i) = some v := by
 rw [add_mk, rd_mk h]; simpa using hi
theorem Blk.rd0 {H : Heap} {b : Nat} {e : TypeId} {vs : List Value} {v : Value} (h : Blk H b e vs) (hi : vs[0]? = some v) : Eng.rd H ⟨b, 0, none⟩ = some v := by
 rw [rd_mk h]; simpa using hi
theorem Blk.ext {H H' : Heap} {b : Nat} {e : TypeId} {vs : List Value} (h : Blk H b e vs) (he : Ext H H') : Blk H' b e vs := by
 unfold Blk; rw [he.get _ h.lt]; exact h

def spl (vs : List Value) : Nat -> List Value -> List Value
 | _, [] => vs
 | i, w :: ws => spl (vs.set i w) (i + 1) ws

theorem splice_toArray (vs : List Value) : ∀ (ws : List Value) (i : Nat), splice vs.toArray i ws = (spl vs i ws).toArray := by
 intro ws
 induction ws generalizing vs with
 | nil => intro i; rfl
 | cons w ws ih => intro i; simp only [splice, spl]; rw [<- ih]; simp

theorem Blk.wr {H : Heap} {b o : Nat} {e : TypeId} {vs ws : List Value} (h : Blk H b e vs) : Blk (wrs H ⟨b, o, none⟩ ws) b e (spl vs o ws) := by
 unfold Blk; rw [wrs_get h, splice_toArray]
theorem Blk.wr_ne {H : Heap} {b : Nat} {a : Addr} {e : TypeId} {vs ws : List Value} (h : Blk H b e vs) (hn : b ≠ a.block) : Blk (wrs H a ws) b e vs := by
 unfold Blk; rw [wrs_ne hn]; exact h
theorem Blk.wr1 {H : Heap} {b i : Nat} {e : TypeId} {vs : List Value} {w : Value} (h : Blk H b e vs) : Blk (wrs H ((⟨b, 0, none⟩ : Addr).add i) [w]) b e (vs.set i w) := by
 rw [add_mk]
 have := h.wr (o := 0 + i) (ws := [w])
 simpa [spl] using this
theorem Blk.ok {H : Heap} {b i n : Nat} {e : TypeId} {vs : List Value} (h : Blk H b e vs) (hl : i + n <= vs.length) : okRow H ((⟨b, 0, none⟩ : Addr).add i) n := by
 rw [add_mk]; exact okRow_mk h (by simpa using hl)
theorem Blk.ok0 {H : Heap} {b n : Nat} {e : TypeId} {vs : List Value} (h : Blk H b e vs) (hl : n <= vs.length) : okRow H ⟨b, 0, none⟩ n := okRow_mk h (by simpa using hl)
theorem Blk.new (H : Heap) (e : TypeId) (vs : List Value) : Blk (H.push (.cells vs.toArray e (0, 0))) H.size e vs := push_new _ _

structure Mods (S : List Nat) (H H' : Heap) : Prop where
 size : H.size <= H'.size
 get : ∀ k, k < H.size -> k ∉ S -> H'[k]? = H[k]?

theorem Mods.refl (S : List Nat) (H : Heap) : Mods S H H := ⟨Nat.le_refl _, fun _ _ _ => rfl⟩
theorem Mods.trans {S : List Nat} {A B C : Heap} (h : Mods S A B) (k : Mods S B C) : Mods S A C :=
 ⟨Nat.le_trans h.size k.size, fun i hi hn => (k.get i (Nat.lt_of_lt_of_le hi h.size) hn).trans (h.get i hi hn)⟩
theorem Mods.mono {S T : List Nat} {A B : Heap} (h : Mods S A B) (hs : ∀ x, x ∈ S -> x ∈ T) : Mods T A B := ⟨h.size, fun k hk hn => h.get k hk (fun e => hn (hs k e))⟩
theorem Ext.mods {S : List Nat} {H H' : Heap} (h : Ext H H') : Mods S H H' := ⟨h.size, fun k hk _ => h.get k hk⟩
theorem Mods.wrs {S : List Nat} {H : Heap} {a : Addr} {vs : List Value} (ha : a.block ∈ S) : Mods S H (wrs H a vs) :=
 ⟨by rw [wrs_size]; exact Nat.le_refl _, fun k _ hn => wrs_ne (fun e => hn (e ▸ ha))⟩
theorem Mods.ext {S : List Nat} {A B C : Heap} (h : Ext A B) (k : Mods S B C) (hb : ∀ x ∈ S, A.size <= x) : Ext A C :=
 ⟨Nat.le_trans h.size k.size, fun i hi => (k.get i (Nat.lt_of_lt_of_le hi h.size) (fun e => by have := hb i e; omega)).trans (h.get i hi)⟩
theorem Mods.to_ext {H H' : Heap} (h : Mods [] H H') : Ext H H' := ⟨h.size, fun k hk => h.get k hk (by simp)⟩
theorem Blk.mods {S : List Nat} {H H' : Heap} {b : Nat} {e : TypeId} {vs : List Value} (h : Blk H b e vs) (hm : Mods S H H') (hb : b ∉ S) : Blk H' b e vs := by
 unfold Blk; rw [hm.get _ h.lt hb]; exact h
theorem Mods.rd {S : List Nat} {H H' : Heap} (hm : Mods S H H') {a : Addr} {v : Value} (h : Eng.rd H a = some v) (hb : a.block ∉ S) : Eng.rd H' a = some v := by
 rw [rd_congr (H := H) (hm.get _ (rd_lt h) hb)]; exact h

theorem local_mk {H : Heap} {e : TypeId} {zs : Array Value} {vs : List Value} {n : Nat} {K : Heap -> Prop} (hz : zs.size = vs.length) (hn : n = vs.length)
  (h : ∀ H', Ext H H' -> H'.size = H.size + 1 -> Blk H' H.size e vs -> K H') :
  letH (H.push (.cells zs e (0, 0))) (fun H1 => okRow H1 (⟨H.size, 0, none⟩ : Addr) n /\ letH (wrs H1 (⟨H.size, 0, none⟩ : Addr) vs) (fun H2 => K H2)) := by
 refine letH_mk ?_
 rintro H1 rfl
 have hb : (H.push (.cells zs e (0, 0)))[H.size]? = some (.cells zs e (0, 0)) := push_new _ _
 refine ⟨okRow_mk hb (by omega), letH_mk ?_⟩
 rintro H2 rfl
 refine h _ ?_ (by rw [wrs_size]; simp) ?_
 ·exact Upd.ext (Ext.push H _) (Upd.wrs (a := ⟨H.size, 0, none⟩)) (Nat.le_refl _)
 ·unfold Blk
  rw [wrs_get hb]
  have key : ∀ (ws : List Value) (c : Array Value) (i : Nat), i + ws.length = c.size -> splice c i ws = (c.toList.take i ++ ws).toArray := by
   intro ws
   induction ws with
   | nil => intro c i hi; simp at hi; simp [splice, hi]; rw [List.take_of_length_le (by simp)]
   | cons w ws ih =>
    intro c i hi
    simp only [List.length_cons] at hi
    simp only [splice]
    rw [ih _ _ (by simp; omega)]
    congr 1
    simp only [Array.toList_setIfInBounds]
    rw [List.take_succ_eq_append_getElem (by simp; omega)]
    simp [List.take_set_of_le]
  rw [key vs zs 0 (by omega)]
  simp

/-! ### slices of plain data -/

structure IsS {α : Type} (sz : Nat) (enc : α -> List Value) (H : Heap) (s : Sl) (l : List α) : Prop where
 len : s.n = l.length
 row : l = [] \/ ∃ a, s.p = some a /\ ∀ i x, l[i]? = some x -> ∀ j v, (enc x)[j]? = some v -> rd H ((a.add (i * sz)).add j) = some v

section
variable {α : Type} {sz : Nat} {enc : α -> List Value} {H H' : Heap} {s : Sl} {l : List α}

theorem IsS.nil (sz : Nat) (enc : α -> List Value) (H : Heap) : IsS sz enc H ⟨none, 0, 0⟩ [] := ⟨rfl, .inl rfl⟩

theorem IsS.get (h : IsS sz enc H s l) {i : Nat} {x : α} (hi : l[i]? = some x) : ∃ a, s.p = some a /\ ∀ j v, (enc x)[j]? = some v -> rd H ((a.add (i * sz)).add j) = some v := by
 rcases h.row with rfl | ⟨a, hp, hr⟩
 ·simp at hi
 ·exact ⟨a, hp, fun j v hv => hr i x hi j v hv⟩

theorem IsS.ext (h : IsS sz enc H s l) (he : Ext H H') : IsS sz enc H' s l := by
 refine ⟨h.len, ?_⟩
 rcases h.row with rfl | ⟨a, hp, hr⟩
 ·exact .inl rfl
 ·exact .inr ⟨a, hp, fun i x hi j v hv => he.rd (hr i x hi j v hv)⟩

theorem IsS.mods {S : List Nat} (h : IsS sz enc H s l) (he : Mods S H H') (hn : ∀ a, s.p = some a -> a.block ∉ S) : IsS sz enc H' s l := by
 refine ⟨h.len, ?_⟩
 rcases h.row with rfl | ⟨a, hp, hr⟩
 ·exact .inl rfl
 ·refine .inr ⟨a, hp, fun i x hi j v hv => he.rd (hr i x hi j v hv) ?_⟩
  rw [add_block, add_block]
  exact hn a hp

end

theorem flat_get {α : Type} {sz : Nat} {enc : α -> List Value} (he : ∀ x, (enc x).length = sz) : ∀ (l : List α) (i : Nat) (x : α), l[i]? = some x -> ∀ j v, (enc x)[j]? = some v ->
  (l.flatMap enc)[i * sz + j]? = some v := by
 intro l
 induction l with
 | nil => intro i x h; simp at h
 | cons y l ih =>
  intro i x hi j v hv
  have hj : j < sz := by
   rw [<- he x]
   rcases Nat.lt_or_ge j (enc x).length with h | h
   ·exact h
   ·rw [List.getElem?_eq_none h] at hv; cases hv
  rw [List.flatMap_cons]
  cases i with
  | zero =>
   simp at hi
   subst hi
   rw [List.getElem?_append_left (by rw [he]; omega)]
   simpa using hv
  | succ i =>
   rw [List.getElem?_append_right (by rw [he, Nat.succ_mul]; omega), he]
   have := ih i x (by simpa using hi) j v hv
   rw [show (i + 1) * sz + j - sz = i * sz + j by rw [Nat.succ_mul]; omega]
   exact this

theorem IsS.of_blk {α : Type} {sz : Nat} {enc : α -> List Value} (he : ∀ x, (enc x).length = sz) {H : Heap} {b n c : Nat} {e : TypeId} {vs : List Value} {l : List α} (h : Blk H b e vs)
  (hn : n = l.length) (hv : ∀ (i : Nat) (v : Value), (l.flatMap enc)[i]? = some v -> vs[i]? = some v) : IsS sz enc H ⟨some ⟨b, 0, none⟩, n, c⟩ l := by
 refine ⟨hn, .inr ⟨_, rfl, fun i x hi j v hx => ?_⟩⟩
 rw [add_mk, add_mk, rd_mk h]
 have := hv _ _ (flat_get he l i x hi j v hx)
 simpa [Nat.add_assoc] using this

/-! ### numbers -/

def encI (k : IntKind) (n : Int) : List Value := [.int k n]

abbrev Ints (k : IntKind) (H : Heap) (s : Sl) (l : List Int) : Prop := IsS 1 (encI k) H s l

theorem Ints.at {k : IntKind} {H : Heap} {s : Sl} {l : List Int} (h : Ints k H s l) {x : Int} (h0 : 0 <= x) (h1 : x < l.length) :
  ∃ a, s.p = some a /\ rd H (a.add (x.toNat * 1)) = some (.int k (l.getD x.toNat 0)) := by
 have hx : x.toNat < l.length := by omega
 obtain ⟨a, hp, hr⟩ := h.get (i := x.toNat) (x := l.getD x.toNat 0) (by simp [hx])
 exact ⟨a, hp, hr 0 _ rfl⟩

theorem flatMap_encI (k : IntKind) (l : List Int) : l.flatMap (encI k) = l.map (Value.int k) := by
 induction l with
 | nil => rfl
 | cons x l ih => simp [encI, ih]

theorem Ints.of_blk {k : IntKind} {H : Heap} {b n c : Nat} {e : TypeId} {l : List Int} (h : Blk H b e (l.map (Value.int k))) (hn : n = l.length) : Ints k H ⟨some ⟨b, 0, none⟩, n, c⟩ l :=
 IsS.of_blk (sz := 1) (enc := encI k) (fun _ => rfl) h hn (fun i v hv => by rw [flatMap_encI] at hv; exact hv)

/-! ### tables -/

def tab {α : Type} (n : Nat) (f : Nat -> α) : List α := (List.range n).map f
def upd {α : Type} (f : Nat -> α) (k : Nat) (v : α) : Nat -> α := fun i => if i = k then v else f i

section
variable {α : Type} {n : Nat} {f g : Nat -> α}

theorem tab_length (n : Nat) (f : Nat -> α) : (tab n f).length = n := by simp [tab]
theorem tab_get {k : Nat} (h : k < n) : (tab n f)[k]? = some (f k) := by simp [tab, h]
theorem tab_congr (h : ∀ i, i < n -> f i = g i) : tab n f = tab n g := by
 unfold tab
 exact List.map_congr_left (fun i hi => h i (by simpa using hi))
theorem tab_set {k : Nat} {v : α} (h : k < n) : (tab n f).set k v = tab n (upd f k v) := by
 apply List.ext_getElem?
 intro i
 rw [List.getElem?_set]
 by_cases e : k = i
 ·subst e; simp [h, tab, upd]
 ·simp only [e, if_false]
  by_cases hi : i < n
  ·rw [tab_get hi, tab_get hi]
   have e' : ¬ i = k := fun x => e x.symm
   simp [upd, e']
  ·rw [List.getElem?_eq_none (by rw [tab_length]; omega), List.getElem?_eq_none (by rw [tab_length]; omega)]
theorem tab_replicate (n : Nat) (x : α) : List.replicate n x = tab n (fun _ => x) := by
 apply List.ext_getElem?
 intro i
 by_cases hi : i < n
 ·rw [tab_get hi]; simp [hi]
 ·rw [List.getElem?_eq_none (by simp; omega), List.getElem?_eq_none (by rw [tab_length]; omega)]
theorem upd_same {k : Nat} {v : α} : upd f k v k = v := by simp [upd]
theorem upd_ne {k i : Nat} {v : α} (h : i ≠ k) : upd f k v i = f i := by simp [upd, h]
end

section
variable {k : IntKind} {H H' : Heap} {b n : Nat} {e : TypeId} {f g : Nat -> Int}

theorem mods_wr_add {S : List Nat} {i : Nat} {vs : List Value} (hb : b ∈ S) : Mods S H (wrs H ((⟨b, 0, none⟩ : Addr).add i) vs) := by
 rw [add_mk]; exact Mods.wrs hb
end

theorem add_add (b o m n : Nat) : ((⟨b, o, none⟩ : Addr).add m).add n = (⟨b, o, none⟩ : Addr).add (m + n) := by
 rw [add_mk, add_mk, add_mk, Nat.add_assoc]

def VB (H : Heap) (b : Nat) (e : TypeId) (n : Nat) (f : Nat -> Value) : Prop := ∃ extra, Blk H b e (tab n f ++ extra)

section
variable {H H' : Heap} {b n : Nat} {e : TypeId} {f g : Nat -> Value}

theorem VB.ext (h : VB H b e n f) (he : Ext H H') : VB H' b e n f := by obtain ⟨x, h⟩ := h; exact ⟨x, h.ext he⟩
theorem VB.mods {S : List Nat} (h : VB H b e n f) (he : Mods S H H') (hb : b ∉ S) : VB H' b e n f := by obtain ⟨x, h⟩ := h; exact ⟨x, h.mods he hb⟩
theorem VB.congr (h : VB H b e n f) (hg : ∀ i, i < n -> f i = g i) : VB H b e n g := by obtain ⟨x, h⟩ := h; rw [tab_congr hg] at h; exact ⟨x, h⟩
theorem VB.rd (h : VB H b e n f) {i : Nat} (hi : i < n) : Eng.rd H ((⟨b, 0, none⟩ : Addr).add i) = some (f i) := by
 obtain ⟨x, h⟩ := h
 refine h.rd ?_
 rw [List.getElem?_append_left (by simpa [tab_length] using hi), tab_get hi]
theorem VB.ok (h : VB H b e n f) {i m : Nat} (hi : i + m <= n) : okRow H ((⟨b, 0, none⟩ : Addr).add i) m := by
 obtain ⟨x, h⟩ := h
 refine h.ok ?_
 simp [tab_length]; omega
theorem VB.wr (h : VB H b e n f) {i : Nat} (hi : i < n) (v : Value) : VB (wrs H ((⟨b, 0, none⟩ : Addr).add i) [v]) b e n (upd f i v) := by
 obtain ⟨x, h⟩ := h
 refine ⟨x, ?_⟩
 have := h.wr1 (i := i) (w := v)
 rw [List.set_append_left _ _ (by simpa [tab_length] using hi), tab_set hi] at this
 exact this
end

/-! ### appending -/

def wOf (H : Heap) : World := { (default : World) with heap := H }

def Own (lo : Nat) (e : TypeId) (sz : Nat) (H : Heap) (s : Sl) (xs : List Value) : Prop := (wOf H).ownsRow lo e sz (.slice s.p s.n s.c) s.n xs

theorem Own.nil (lo : Nat) (e : TypeId) (sz : Nat) (H : Heap) : Own lo e sz H ⟨none, 0, 0⟩ [] := World.ownsRow_nil _ _ _ _

theorem Own.cases {lo : Nat} {e : TypeId} {sz : Nat} {H : Heap} {s : Sl} {xs : List Value} (h : Own lo e sz H s xs) :
  xs.length = s.n * sz /\ ((s = ⟨none, 0, 0⟩ /\ xs = []) \/ ∃ g cur, s.p = some ⟨g, 0, none⟩ /\ lo <= g /\ H[g]? = some (.cells cur e (0, 0)) /\ s.n <= s.c /\ cur.size = s.c * sz /\ cur.toList.take (s.n * sz) = xs) := by
 obtain ⟨p, n, c⟩ := s
 obtain ⟨h1, h2⟩ := h
 refine ⟨h1, ?_⟩
 rcases h2 with ⟨h3, h4⟩ | ⟨g, cap, cur, h3, h4, h5, h6, h7, h8, h9⟩
 ·simp only [Value.slice.injEq] at h3
  obtain ⟨rfl, rfl, rfl⟩ := h3
  simp only [Nat.zero_mul] at h1
  exact .inl ⟨rfl, List.eq_nil_of_length_eq_zero h1⟩
 ·simp only [Value.slice.injEq] at h3
  obtain ⟨rfl, _, rfl⟩ := h3
  exact .inr ⟨g, cur, rfl, h4, h5, h6, h8, h9⟩

theorem Own.ext {lo : Nat} {e : TypeId} {sz : Nat} {H H' : Heap} {s : Sl} {xs : List Value} (h : Own lo e sz H s xs) (he : Ext H H') : Own lo e sz H' s xs := by
 refine World.ownsRow.kept (w := wOf H) (w' := wOf H') (row := none) h ⟨rfl, rfl, rfl, he.size, fun k hk _ => he.get k hk⟩ ?_
 cases hv : Value.ownBlock (.slice s.p s.n s.c) <;> simp

theorem Own.mods {lo : Nat} {e : TypeId} {sz : Nat} {H H' : Heap} {s : Sl} {xs : List Value} {S : List Nat} (h : Own lo e sz H s xs) (he : Mods S H H') (hn : ∀ a, s.p = some a -> a.block ∉ S) : Own lo e sz H' s xs := by
 obtain ⟨p, n, c⟩ := s
 obtain ⟨h1, h2⟩ := h
 refine ⟨h1, ?_⟩
 rcases h2 with h3 | ⟨g, cap, cur, h3, h4, h5, h6⟩
 ·exact .inl h3
 ·refine .inr ⟨g, cap, cur, h3, h4, ?_, h6⟩
  simp only [Value.slice.injEq] at h3
  show H'[g]? = _
  rw [he.get g (get_lt (H := H) h5) (hn _ h3.1)]
  exact h5

theorem Own.new {lo : Nat} {e : TypeId} {sz : Nat} {H : Heap} {s : Sl} {xs : List Value} (h : Own lo e sz H s xs) : NewP lo s.p := by
 rcases h.cases.2 with ⟨rfl, _⟩ | ⟨g, cur, hp, hg, _⟩
 ·exact NewP.none _
 ·intro a ha; rw [hp] at ha; cases ha; exact hg

theorem Own.lt {lo : Nat} {e : TypeId} {sz : Nat} {H : Heap} {s : Sl} {xs : List Value} (h : Own lo e sz H s xs) : ∀ a, s.p = some a -> a.block < H.size := by
 intro a ha
 rcases h.cases.2 with ⟨rfl, _⟩ | ⟨g, cur, hp, _, hb, _⟩
 ·cases ha
 ·rw [hp] at ha; cases ha; exact get_lt hb

theorem Own.isS {α : Type} {enc : α -> List Value} {sz lo : Nat} {e : TypeId} {H : Heap} {s : Sl} {l : List α} (he : ∀ x, (enc x).length = sz) (hsz : 0 < sz) (h : Own lo e sz H s (l.flatMap enc)) : IsS sz enc H s l := by
 obtain ⟨hlen, hc⟩ := h.cases
 have hfl : (l.flatMap enc).length = l.length * sz := by
  clear hlen hc h
  induction l with
  | nil => simp
  | cons x l ih => rw [List.flatMap_cons, List.length_append, he, ih, List.length_cons, Nat.succ_mul]; omega
 have hn : s.n = l.length := by
  rw [hfl] at hlen
  exact (Nat.eq_of_mul_eq_mul_right hsz hlen).symm
 rcases hc with ⟨rfl, hx⟩ | ⟨g, cur, hp, _, hb, _, hsz', htake⟩
 ·refine ⟨hn, .inl ?_⟩
  exact List.eq_nil_of_length_eq_zero hn.symm
 ·refine ⟨hn, .inr ⟨_, hp, fun i x hi j v hv => ?_⟩⟩
  rw [add_mk, add_mk, rd_mk hb]
  have := flat_get he l i x hi j v hv
  rw [<- htake, List.getElem?_take] at this
  split at this
  ·simpa using this
  ·cases this

theorem append_own {P : Program} {t ty e : TypeId} {i : TypeInfo} {z : Value} {sz bytes lo : Nat} {H : Heap} {s src : Sl} {xs news : List Value} {ad : Addr}
  (ht : P.underlying t = some (.slice e)) (hi : P.info? e = some i) (hz : i.zero = some z) (hsize : i.size = sz) (hby : i.bytes = bytes) (hzs : z.cells.size = sz) (hsz : 0 < sz)
  (h : Own lo e sz H s xs) (hp : src.p = some ad) (hl : news.length = src.n * sz) (hnews : ∀ j u, news[j]? = some u -> rd H (ad.add j) = some u) (h1 : ∀ u ∈ news, oneC u = true)
  (h63 : s.n + src.n <= maxLen) (hbytes : (s.n + src.n) * bytes <= 140737488355328) (hlo : lo <= H.size) {K : Value -> Heap -> Prop}
  (hK : ∀ (s' : Sl) (H' : Heap), Own lo e sz H' s' (xs ++ news) -> s'.n = s.n + src.n -> (H.size <= H'.size /\ ∀ k, k < H.size -> (∀ a, s.p = some a -> a.block ≠ k) -> H'[k]? = H[k]?) -> K (.slice s'.p s'.n s'.c) H') :
  runH P (Builtin.append_ #[t, t] ty #[.slice s.p s.n s.c, .slice src.p src.n src.c]) H K := by
 intro w hw
 subst hw
 have hown : w.ownsRow lo e sz (.slice s.p s.n s.c) s.n xs := h
 have h1' : ∀ u ∈ news, u.oneCell' = true := by
  intro u hu
  have := h1 u hu
  cases u <;> simp_all [oneC, Value.oneCell']
 obtain ⟨v', w', hr, ho, hg, _⟩ := run_append_own (P := P) w lo t ty e i z sz bytes ht hi hz hsize hby hzs hsz _ s.n xs hown ad src.n src.c news hl hnews h1' h63 hbytes hlo
 rw [hp]
 refine ⟨v', w', hr, ⟨hg.tape, hg.os, hg.output⟩, ?_⟩
 obtain ⟨s', hv'⟩ : ∃ s' : Sl, v' = .slice s'.p s'.n s'.c := by
  rcases ho.2 with ⟨hv, _⟩ | ⟨g, cap, cur, hv, _⟩
  ·exact ⟨⟨none, 0, 0⟩, hv⟩
  ·exact ⟨⟨_, _, _⟩, hv⟩
 subst hv'
 have hn' : s'.n = s.n + src.n := by
  rcases ho.2 with ⟨hv, h0⟩ | ⟨g, cap, cur, hv, _⟩
  ·simp only [Value.slice.injEq] at hv
   omega
  ·simp only [Value.slice.injEq] at hv
   exact hv.2.1
 refine hK s' w'.heap ?_ hn' ⟨hg.size, fun k hk hne => hg.block k hk ?_⟩
 ·have ho2 : (wOf w'.heap).ownsRow lo e sz (.slice s'.p s'.n s'.c) (s.n + src.n) (xs ++ news) := ho
  rw [<- hn'] at ho2
  exact ho2
 ·intro e2
  cases hp2 : s.p with
  | none => rw [hp2] at e2; simp [Value.ownBlock] at e2
  | some a => rw [hp2] at e2; simp [Value.ownBlock] at e2; exact hne a hp2 e2.symm

theorem add_add' (a : Addr) (m n : Nat) : (a.add m).add n = a.add (m + n) := by
 unfold Addr.add
 by_cases h1 : m = 0
 ·subst h1; simp
 ·by_cases h2 : n = 0
  ·subst h2; simp
  ·have : m + n ≠ 0 := by omega
   simp [h1, h2, Nat.add_assoc]

theorem flat_inv {α : Type} {sz : Nat} {enc : α -> List Value} (he : ∀ x, (enc x).length = sz) : ∀ (l : List α) (q : Nat) (v : Value), (l.flatMap enc)[q]? = some v ->
  ∃ i x j, q = i * sz + j /\ l[i]? = some x /\ (enc x)[j]? = some v := by
 intro l
 induction l with
 | nil => intro q v h; simp at h
 | cons y l ih =>
  intro q v h
  rw [List.flatMap_cons] at h
  by_cases hq : q < (enc y).length
  ·rw [List.getElem?_append_left hq] at h
   exact ⟨0, y, q, by simp, by simp, h⟩
  ·rw [List.getElem?_append_right (by omega)] at h
   obtain ⟨i, x, j, h1, h2, h3⟩ := ih _ v h
   refine ⟨i + 1, x, j, ?_, by simpa using h2, h3⟩
   rw [he] at h1 hq
   rw [Nat.succ_mul]
   omega

theorem flat_len {α : Type} {sz : Nat} {enc : α -> List Value} (he : ∀ x, (enc x).length = sz) (l : List α) : (l.flatMap enc).length = l.length * sz := by
 induction l with
 | nil => simp
 | cons x l ih => rw [List.flatMap_cons, List.length_append, he, ih, List.length_cons, Nat.succ_mul]; omega

theorem IsS.flat {α : Type} {sz : Nat} {enc : α -> List Value} {H : Heap} {s : Sl} {l : List α} (he : ∀ x, (enc x).length = sz) (h : IsS sz enc H s l) {a : Addr} (hp : s.p = some a) :
  ∀ j u, (l.flatMap enc)[j]? = some u -> rd H (a.add j) = some u := by
 intro q u hu
 obtain ⟨i, x, j, rfl, h2, h3⟩ := flat_inv he l q u hu
 obtain ⟨a', hp', hr⟩ := h.get h2
 rw [hp] at hp'
 cases hp'
 rw [<- add_add']
 exact hr j u h3

theorem info_ex {P : Program} {t : TypeId} {z : Value} {sz bytes : Nat} (h : (P.info? t).map (fun i => (i.zero, i.size, i.bytes)) = some (some z, sz, bytes)) :
  ∃ i, P.info? t = some i /\ i.zero = some z /\ i.size = sz /\ i.bytes = bytes := by
 cases hi : P.info? t with
 | none => rw [hi] at h; cases h
 | some i =>
  rw [hi] at h
  simp only [Option.map_some, Option.some.injEq, Prod.mk.injEq] at h
  exact ⟨i, rfl, h⟩

theorem clone_vc {α : Type} {P : Program} {st e : TypeId} {z : Value} {sz bytes : Nat} {enc : α -> List Value} {H : Heap} {s : Sl} {l : List α} {R : Value -> Heap -> Prop}
  (ht : P.underlying st = some (.slice e)) (hi : (P.info? e).map (fun i => (i.zero, i.size, i.bytes)) = some (some z, sz, bytes)) (hzs : z.cells.size = sz) (hsz : 0 < sz) (he : ∀ x, (enc x).length = sz)
  (hone : ∀ x, ∀ u ∈ enc x, oneC u = true) (h : IsS sz enc H s l) (hn : s.n <= maxLen) (hb : s.n * bytes <= 140737488355328)
  (hR : ∀ (s' : Sl) (H' : Heap), Own H.size e sz H' s' (l.flatMap enc) -> IsS sz enc H' s' l -> Ext H H' -> R (.slice s'.p s'.n s'.c) H') :
  iteB s.p.isNone (R (.slice none 0 0) H) (letH (H.push (.cells #[] e (0, 0))) (fun H1 =>
   runH P (Builtin.append_ #[st, st] st #[.slice (some (⟨H.size, 0, none⟩ : Addr)) 0 0, .slice s.p s.n s.c]) H1 (fun v H2 => ∃ x : Sl, v = .slice x.p x.n x.c /\ R (.slice x.p x.n x.c) H2))) := by
 obtain ⟨i, hi1, hi2, hi3, hi4⟩ := info_ex hi
 refine iteB_intro (fun c => ?_) (fun c => letH_mk ?_)
 ·have hp : s.p = none := by simpa using c
  have hl : l = [] := by
   rcases h.row with hl | ⟨a, ha, _⟩
   ·exact hl
   ·rw [hp] at ha; cases ha
  subst hl
  exact hR ⟨none, 0, 0⟩ H (Own.nil _ _ _ _) (IsS.nil _ _ _) (.refl _)
 ·rintro H1 rfl
  obtain ⟨a, hp⟩ : ∃ a, s.p = some a := by
   cases hp : s.p with
   | none => rw [hp] at c; cases c
   | some a => exact ⟨a, rfl⟩
  have he1 := Ext.push H (.cells #[] e (0, 0))
  have h1 := h.ext he1
  refine append_own (s := ⟨some ⟨H.size, 0, none⟩, 0, 0⟩) (src := s) (xs := []) (news := l.flatMap enc) (ad := a) ht hi1 hi2 hi3 hi4 hzs hsz ?_ hp (by rw [flat_len he, h.len]) (h1.flat he hp)
   (fun u hu => ?_) (by simpa using hn) (by simpa using hb) (lo := H.size) (by simp) ?_
  ·refine ⟨by simp, .inr ⟨H.size, 0, #[], rfl, Nat.le_refl _, push_new _ _, Nat.le_refl _, by simp [maxLen], by simp, by simp⟩⟩
  ·obtain ⟨x, _, hx⟩ := List.mem_flatMap.1 hu
   exact hone x u hx
  ·intro s' H' ho hn' hg
   rw [List.nil_append] at ho
   refine ⟨s', rfl, hR s' H' ho (ho.isS he hsz) ⟨?_, fun k hk => ?_⟩⟩
   ·have := hg.1; simp at this; omega
   ·rw [hg.2 k (by simp; omega) (fun a' ha' => by cases ha'; simp; omega), push_lt hk]

/-! ### blocks of rows -/

theorem set_mid {A B C : List Value} {j : Nat} {v : Value} (hj : j < B.length) : (A ++ B ++ C).set (A.length + j) v = A ++ B.set j v ++ C := by
 rw [List.append_assoc, List.set_append_right _ _ (by omega), List.append_assoc]
 congr 1
 rw [show A.length + j - A.length = j by omega, List.set_append_left _ _ hj]

theorem spl_mid (A C : List Value) : ∀ (ws B : List Value), ws.length = B.length -> spl (A ++ B ++ C) A.length ws = A ++ ws ++ C := by
 intro ws
 induction ws generalizing A with
 | nil =>
  intro B hB
  have : B = [] := List.eq_nil_of_length_eq_zero (by simpa using hB.symm)
  subst this
  rfl
 | cons w ws ih =>
  intro B hB
  cases B with
  | nil => simp at hB
  | cons x B =>
   have h1 := set_mid (A := A) (B := x :: B) (C := C) (j := 0) (v := w) (by simp)
   simp only [Nat.add_zero, List.set_cons_zero] at h1
   simp only [spl]
   rw [h1]
   have h2 := ih (A ++ [w]) B (by simpa using hB)
   simp only [List.append_assoc, List.cons_append, List.nil_append, List.length_append, List.length_cons, List.length_nil, Nat.zero_add] at h2 ⊢
   exact h2

section
variable {α : Type} {sz : Nat} {enc : α -> List Value} {H H' : Heap} {b : Nat} {e : TypeId} {l : List α}

def RB (H : Heap) (b : Nat) (e : TypeId) (sz : Nat) (enc : α -> List Value) (l : List α) : Prop := (∀ x, (enc x).length = sz) /\ ∃ extra, Blk H b e (l.flatMap enc ++ extra)

theorem RB.lt (h : RB H b e sz enc l) : b < H.size := by obtain ⟨_, x, h⟩ := h; exact h.lt
theorem RB.ext (h : RB H b e sz enc l) (he : Ext H H') : RB H' b e sz enc l := by obtain ⟨g, x, h⟩ := h; exact ⟨g, x, h.ext he⟩
theorem RB.mods {S : List Nat} (h : RB H b e sz enc l) (he : Mods S H H') (hb : b ∉ S) : RB H' b e sz enc l := by obtain ⟨g, x, h⟩ := h; exact ⟨g, x, h.mods he hb⟩

theorem flat_split {i : Nat} {x : α} (hi : l[i]? = some x) : l.flatMap enc = (l.take i).flatMap enc ++ enc x ++ (l.drop (i + 1)).flatMap enc := by
 obtain ⟨hlt, rfl⟩ := List.getElem?_eq_some_iff.1 hi
 have e : l = l.take i ++ l[i] :: l.drop (i + 1) := by rw [<- List.drop_eq_getElem_cons hlt, List.take_append_drop]
 have e2 := congrArg (List.flatMap enc) e
 rw [List.flatMap_append, List.flatMap_cons] at e2
 rw [List.append_assoc]
 exact e2

theorem flat_split_set {i : Nat} {y : α} (hi : i < l.length) : (l.set i y).flatMap enc = (l.take i).flatMap enc ++ enc y ++ (l.drop (i + 1)).flatMap enc := by
 rw [List.set_eq_take_append_cons_drop, if_pos hi]
 simp

theorem flat_take_len (he : ∀ x, (enc x).length = sz) {i : Nat} (hi : i < l.length) : ((l.take i).flatMap enc).length = i * sz := by
 rw [flat_len he]
 simp
 rw [Nat.min_eq_left (by omega)]

theorem RB.rd (h : RB H b e sz enc l) {i j : Nat} {x : α} {v : Value} (hi : l[i]? = some x) (hj : (enc x)[j]? = some v) : Eng.rd H (((⟨b, 0, none⟩ : Addr).add (i * sz)).add j) = some v := by
 obtain ⟨g, ex, h⟩ := h
 rw [add_add]
 refine h.rd ?_
 have := flat_get g l i x hi j v hj
 have hl : i * sz + j < (l.flatMap enc).length := (List.getElem?_eq_some_iff.1 this).1
 rw [List.getElem?_append_left hl]
 exact this

theorem RB.rd0 (h : RB H b e sz enc l) {i : Nat} {x : α} {v : Value} (hi : l[i]? = some x) (hj : (enc x)[0]? = some v) : Eng.rd H ((⟨b, 0, none⟩ : Addr).add (i * sz)) = some v := by
 have := h.rd hi hj
 rw [add_add] at this
 exact this

theorem RB.ok (h : RB H b e sz enc l) {i j m : Nat} (hi : i < l.length) (hj : j + m <= sz) : okRow H (((⟨b, 0, none⟩ : Addr).add (i * sz)).add j) m := by
 obtain ⟨g, ex, h⟩ := h
 rw [add_add]
 refine h.ok ?_
 have h1 : (i + 1) * sz <= l.length * sz := Nat.mul_le_mul_right _ hi
 rw [Nat.add_mul] at h1
 rw [List.length_append, flat_len g]
 omega

theorem RB.ok0 (h : RB H b e sz enc l) {i m : Nat} (hi : i < l.length) (hj : m <= sz) : okRow H ((⟨b, 0, none⟩ : Addr).add (i * sz)) m := by
 have := h.ok (j := 0) (m := m) hi (by omega)
 rw [add_add] at this
 exact this

theorem RB.wr (h : RB H b e sz enc l) {i j : Nat} {x y : α} {v : Value} (hi : l[i]? = some x) (hj : j < sz) (hy : (enc x).set j v = enc y) :
  RB (wrs H (((⟨b, 0, none⟩ : Addr).add (i * sz)).add j) [v]) b e sz enc (l.set i y) := by
 obtain ⟨g, ex, h⟩ := h
 have hlt := (List.getElem?_eq_some_iff.1 hi).1
 refine ⟨g, ex, ?_⟩
 rw [add_add]
 have h2 := h.wr1 (i := i * sz + j) (w := v)
 have e1 : (l.flatMap enc ++ ex).set (i * sz + j) v = (l.set i y).flatMap enc ++ ex := by
  rw [flat_split (enc := enc) hi, flat_split_set hlt, List.append_assoc _ _ ex, List.append_assoc _ _ ex, <- flat_take_len g hlt, set_mid (by rw [g]; exact hj), hy]
 rw [e1] at h2
 exact h2

theorem RB.wr0 (h : RB H b e sz enc l) {i : Nat} {x y : α} {v : Value} (hi : l[i]? = some x) (hj : 0 < sz) (hy : (enc x).set 0 v = enc y) :
  RB (wrs H ((⟨b, 0, none⟩ : Addr).add (i * sz)) [v]) b e sz enc (l.set i y) := by
 have := h.wr (j := 0) hi hj hy
 rw [add_add] at this
 exact this

theorem RB.wrRow (h : RB H b e sz enc l) {i : Nat} (y : α) (hi : i < l.length) : RB (wrs H ((⟨b, 0, none⟩ : Addr).add (i * sz)) (enc y)) b e sz enc (l.set i y) := by
 obtain ⟨g, ex, h⟩ := h
 refine ⟨g, ex, ?_⟩
 have hx : l[i]? = some l[i] := by simp [hi]
 rw [add_mk]
 have h2 := h.wr (o := 0 + i * sz) (ws := enc y)
 have e1 : spl (l.flatMap enc ++ ex) (0 + i * sz) (enc y) = (l.set i y).flatMap enc ++ ex := by
  rw [flat_split (enc := enc) hx, flat_split_set hi, List.append_assoc _ _ ex, List.append_assoc _ _ ex, Nat.zero_add, <- flat_take_len g hi, spl_mid _ _ _ _ (by rw [g, g])]
 rw [e1] at h2
 exact h2

theorem RB.isS (h : RB H b e sz enc l) (n c : Nat) (hn : n = l.length) : IsS sz enc H ⟨some ⟨b, 0, none⟩, n, c⟩ l :=
 ⟨hn, .inr ⟨_, rfl, fun _ _ hi _ _ hj => h.rd hi hj⟩⟩

theorem RB.zero (H : Heap) (e : TypeId) (he : ∀ x, (enc x).length = sz) (n : Nat) (z : Value) (x : α) (hz : z.cells.toList = enc x) :
  RB (H.push (.cells (zeroRow z n) e (0, 0))) H.size e sz enc (List.replicate n x) := by
 refine ⟨he, [], ?_⟩
 have : zeroRow z n = ((List.replicate n x).flatMap enc ++ []).toArray := by
  rw [List.append_nil]
  apply Array.toList_inj.1
  have hs : z.cells.size = sz := by rw [<- he x, <- hz]; simp
  unfold zeroRow
  rw [hs]
  simp only [Array.toList_map, Array.toList_range]
  refine List.ext_getElem? (fun q => ?_)
  have hlen := flat_len he (List.replicate n x)
  rw [List.length_replicate] at hlen
  by_cases hq : q < n * sz
  ·have hsz : 0 < sz := by
    rcases Nat.eq_zero_or_pos sz with h0 | h0
    ·rw [h0] at hq; omega
    ·exact h0
   have hm : q % sz < sz := Nat.mod_lt _ hsz
   have hd : q / sz < n := by
    rw [Nat.div_lt_iff_lt_mul hsz]
    exact hq
   have hv : (enc x)[q % sz]? = some z.cells[q % sz]! := by
    rw [<- hz]
    simp [hs, hm]
   have h2 := flat_get he (List.replicate n x) (q / sz) x (by simp [hd]) (q % sz) _ hv
   rw [Nat.mul_comm, Nat.div_add_mod] at h2
   rw [h2]
   simp [hq]
  ·rw [List.getElem?_eq_none (by simpa using hq), List.getElem?_eq_none (by omega)]
 rw [this]
 exact Blk.new _ _ _

end

def blkOf : Option Addr -> List Nat
 | none => []
 | some a => [a.block]

theorem append_row {α : Type} {P : Program} {st e : TypeId} {z : Value} {sz bytes lo : Nat} {enc : α -> List Value} {H : Heap} {s : Sl} {l : List α} (x : α) {K : Sl -> Heap -> Prop}
  (ht : P.underlying st = some (.slice e)) (hi : (P.info? e).map (fun i => (i.zero, i.size, i.bytes)) = some (some z, sz, bytes)) (hzs : z.cells.size = sz) (hsz : 0 < sz) (he : ∀ x, (enc x).length = sz)
  (hone : ∀ x, ∀ u ∈ enc x, oneC u = true) (h : Own lo e sz H s (l.flatMap enc)) (hn : s.n + 1 <= maxLen) (hb : (s.n + 1) * bytes <= 140737488355328) (hlo : lo <= H.size)
  (hK : ∀ (s' : Sl) (H' : Heap), Own lo e sz H' s' ((l ++ [x]).flatMap enc) -> s'.n = s.n + 1 -> Mods (blkOf s.p) H H' -> K s' H') :
  letH (H.push (.cells (enc x).toArray e (0, 0))) (fun H1 => runH P (Builtin.append_ #[st, st] st #[.slice s.p s.n s.c, .slice (some (⟨H.size, 0, none⟩ : Addr)) 1 1]) H1 (fun v H2 => ∃ y : Sl, v = .slice y.p y.n y.c /\ K y H2)) := by
 obtain ⟨i, hi1, hi2, hi3, hi4⟩ := info_ex hi
 refine letH_mk ?_
 rintro H1 rfl
 have hnew : Blk (H.push (.cells (enc x).toArray e (0, 0))) H.size e (enc x) := Blk.new _ _ _
 refine append_own (src := ⟨some ⟨H.size, 0, none⟩, 1, 1⟩) (news := enc x) ht hi1 hi2 hi3 hi4 hzs hsz (h.ext (Ext.push _ _)) rfl (by simp [he]) (fun j u hu => hnew.rd hu) (hone x) hn hb (by simp; omega) ?_
 intro s' H' ho hn' hg
 refine ⟨s', rfl, hK s' H' ?_ hn' ⟨?_, fun k hk hkn => ?_⟩⟩
 ·simpa using ho
 ·have := hg.1; simp at this; omega
 ·rw [hg.2 k (by simp; omega) (fun a ha e => hkn (by rw [ha]; simp [blkOf, e])), push_lt hk]

end Go.Eng
