/-
 The engine, part 2: 'wpS' is sound: what it asks suffices for the model's own 'Calls'.
-/
import Derived.Test.YtnhhncjflnlfaaaGreatEngA
namespace Go.Eng

theorem Ext.refl (H : Heap) : Ext H H := ⟨Nat.le_refl _, fun _ _ => rfl⟩
theorem Ext.trans {A B C : Heap} (h : Ext A B) (k : Ext B C) : Ext A C :=
 ⟨Nat.le_trans h.size k.size, fun b hb => (k.get b (Nat.lt_of_lt_of_le hb h.size)).trans (h.get b hb)⟩
theorem Ext.push (H : Heap) (o : Obj) : Ext H (H.push o) :=
 ⟨by simp, fun b hb => by rw [Array.getElem?_push, if_neg (by omega)]⟩
theorem Same.refl (w : World) : Same w w := ⟨rfl, rfl, rfl⟩
theorem Same.trans {a b c : World} (h : Same a b) (k : Same b c) : Same a c :=
 ⟨k.tape.trans h.tape, k.os.trans h.os, k.output.trans h.output⟩

theorem rd_lt {H : Heap} {a : Addr} {v : Value} (h : rd H a = some v) : a.block < H.size := by
 unfold rd at h
 rcases Nat.lt_or_ge a.block H.size with hl | hl
 ·exact hl
 ·rw [Array.getElem?_eq_none hl] at h; cases h

theorem Ext.rd {H H' : Heap} (h : Ext H H') {a : Addr} {v : Value} (hr : Eng.rd H a = some v) : Eng.rd H' a = some v := by
 have hl := rd_lt hr
 unfold Eng.rd at *
 rw [h.get _ hl]; exact hr

theorem iteB_elim {c : Bool} {A B : Prop} (h : iteB c A B) : (c = true ∧ A) ∨ (c = false ∧ B) := by
 cases c
 ·exact .inr ⟨rfl, h⟩
 ·exact .inl ⟨rfl, h⟩

theorem unSome_elim {p : Option Addr} {K : Addr → Prop} (h : unSome p K) : ∃ a, p = some a ∧ K a := by
 cases p with
 | none => exact h.elim
 | some a => exact ⟨a, rfl, h⟩

theorem valM_sound {α : Type} {P : Program} (s : Sem α) {K : α → Prop} (h : valM P s K) : ∃ a, K a ∧ ∀ w, s.run P w = .ok a w := by
 induction s with
 | pure a => exact ⟨a, h, fun _ => rfl⟩
 | program k ih => obtain ⟨a, ha, hr⟩ := ih P h; exact ⟨a, ha, fun w => by simp only [Sem.run]; exact hr w⟩
 | mark m k ih => obtain ⟨a, ha, hr⟩ := ih h; exact ⟨a, ha, fun w => by simp only [Sem.run]; exact hr w⟩
 | _ => exact h.elim

theorem wpM_sound {α : Type} {P : Program} (s : Sem α) : ∀ {H : Heap} {K : α → Heap → Prop}, wpM P s H K → runH P s H K := by
 induction s with
 | pure a => intro H K h w hw; exact ⟨a, w, rfl, .refl w, by rw [hw]; exact h⟩
 | load m a k ih =>
  intro H K h w hw
  obtain ⟨v, hv, hk⟩ := h
  obtain ⟨x, w', hr, hs, hK⟩ := ih v hk w hw
  refine ⟨x, w', ?_, hs, hK⟩
  have : w.cell? a = some v := by subst hw; exact hv
  simp only [Sem.run, this]; exact hr
 | new o k ih =>
  intro H K h w hw
  obtain ⟨x, w', hr, hs, hK⟩ := ih H.size h { w with heap := w.heap.push o } (by simp [hw])
  exact ⟨x, w', by subst hw; exact hr, ⟨hs.tape, hs.os, hs.output⟩, hK⟩
 | shape r k ih =>
  intro H K h w hw
  obtain ⟨x, w', hr, hs, hK⟩ := ih _ h w hw
  exact ⟨x, w', by subst hw; exact hr, hs, hK⟩
 | frozen a k ih =>
  intro H K h w hw
  obtain ⟨x, w', hr, hs, hK⟩ := ih _ h w hw
  exact ⟨x, w', by subst hw; exact hr, hs, hK⟩
 | program k ih =>
  intro H K h w hw
  exact ih P h w hw
 | mark m k ih =>
  intro H K h w hw
  exact ih h w hw
 | _ => intro H K h; exact h.elim

section
variable {P : Program}

theorem run_isAgg {t : TypeId} {b : Bool} (h : aggT P t = some b) (w : World) : (isAgg t).run P w = .ok b w := by
 unfold aggT at h
 cases hu : P.underlying t with
 | none => rw [hu] at h; cases h
 | some d => rw [hu] at h; cases d <;> simp_all [isAgg, underlying, program, Sem.run, bind, Sem.bind, pure]

theorem run_sizeOf {t : TypeId} {n : Nat} (h : szT P t = some n) (w : World) : (sizeOf t).run P w = .ok n w := by
 unfold szT at h
 cases hu : P.info? t with
 | none => rw [hu] at h; cases h
 | some d => rw [hu] at h; simp_all [sizeOf, typeInfo, program, Sem.run, bind, Sem.bind, pure]

theorem run_under {t : TypeId} {d : TypeDesc} (h : P.underlying t = some d) (w : World) : (underlying t).run P w = .ok d w := by
 simp [underlying, program, Sem.run, bind, Sem.bind, pure, h]

theorem KeepR.refl (H : Heap) (a : Addr) (n : Nat) : KeepR H H a n := fun _ _ _ h => h
theorem KeepR.trans {A B C : Heap} {a : Addr} {n : Nat} (h : KeepR A B a n) (k : KeepR B C a n) : KeepR A C a n := fun j v hj hr => k j v hj (h j v hj hr)
theorem Ext.keepR {H H' : Heap} (h : Ext H H') (a : Addr) (n : Nat) : KeepR H H' a n := fun _ _ _ hr => h.rd hr
theorem Ext.keeps {H H' : Heap} (h : Ext H H') {l : List (Addr × Nat)} : Keeps H H' l := fun p _ => h.keepR p.1 p.2
theorem Keeps.refl (H : Heap) (l : List (Addr × Nat)) : Keeps H H l := fun p _ => .refl H p.1 p.2

theorem ldCells_sound {H : Heap} {a : Addr} : ∀ (zs : List Value) (i : Nat) {K : List Value → Prop}, ldCells H a i zs K →
  ∃ vs, K vs ∧ ∀ (w : World) (acc : Array Value), (∀ j v, j < i + zs.length → rd H (a.add j) = some v → rd w.heap (a.add j) = some v) → (loadCellsFrom a i zs.length acc).run P w = .ok (acc ++ vs.toArray) w := by
 intro zs
 induction zs with
 | nil => intro i K h; exact ⟨[], h, fun w acc _ => by simp [loadCellsFrom]⟩
 | cons z zs ih =>
  intro i K h
  obtain ⟨x, hx, hr⟩ := h
  obtain ⟨vs, hK, hrun⟩ := ih (i + 1) hr
  refine ⟨mkV z x :: vs, hK, fun w acc he => ?_⟩
  have hc : w.cell? (a.add i) = some (mkV z x) := he i _ (by simp) hx
  simp only [List.length_cons, loadCellsFrom, Sem.run_bind, run_load, hc, Result.andThen_ok]
  rw [hrun w _ (fun j v hj => he j v (by simp only [List.length_cons]; omega))]
  simp

theorem ldBig_sound {a : Addr} : ∀ (vs : List Value) (i : Nat) (w : World) (acc : Array Value), (∀ j v, vs[j]? = some v → rd w.heap (a.add (i + j)) = some v) → (loadCellsFrom a i vs.length acc).run P w = .ok (acc ++ vs.toArray) w := by
 intro vs
 induction vs with
 | nil => intro i w acc _; simp [loadCellsFrom]
 | cons x vs ih =>
  intro i w acc h
  have hc : w.cell? (a.add i) = some x := by have := h 0 x rfl; rwa [Nat.add_zero] at this
  simp only [List.length_cons, loadCellsFrom, Sem.run_bind, run_load, hc, Result.andThen_ok]
  rw [ih (i + 1) w _ (fun j v hv => by rw [show i + 1 + j = i + (j + 1) by omega]; exact h (j + 1) v (by simpa using hv))]
  simp

theorem ldV_sound {t : TypeId} {H : Heap} {a : Addr} {K : Value → Prop} (h : ldV P t H a K) :
  ∃ v, K v ∧ ∀ w : World, (∀ n, szT P t = some n → KeepR H w.heap a n) → (loadVar t a).run P w = .ok v w := by
 unfold ldV at h
 split at h
 ·rename_i cs n hz ha hs
  split at h
  ·rename_i hn
   split at h
   ·obtain ⟨vs, hl, hr, hK⟩ := h
    refine ⟨_, hK, fun w he => ?_⟩
    have := ldBig_sound (P := P) (a := a) vs 0 w #[] (fun j v hv => by
     rw [Nat.zero_add]
     exact he n hs j v (.inl (by rw [← hl]; exact (List.getElem?_eq_some_iff.1 hv).1)) (hr j v hv))
    rw [hl] at this
    simp only [loadVar, Sem.run_bind, run_isAgg ha, Result.andThen_ok, if_true, run_sizeOf hs, loadCells, this]
    simp
   ·obtain ⟨vs, hK, hr⟩ := ldCells_sound (P := P) _ _ h
    refine ⟨_, hK, fun w he => ?_⟩
    have hn' : n = cs.toList.length := by simpa using Nat.eq_of_beq_eq_true hn
    have := hr w #[] (fun j v hj => he n hs j v (.inl (by omega)))
    simp only [loadVar, Sem.run_bind, run_isAgg ha, Result.andThen_ok, if_true, run_sizeOf hs, loadCells, hn', this]
    simp
  ·exact h.elim
 ·rename_i z n hz ha hs
  obtain ⟨x, hx, hK⟩ := h
  refine ⟨_, hK, fun w he => ?_⟩
  have hc : w.cell? a = some (mkV z x) := by
   have := he n hs 0 _ (.inr rfl) (by simpa [Addr.add] using hx)
   have h0 : rd w.heap a = some (mkV z x) := by simpa [Addr.add] using this
   exact h0
  simp only [loadVar, Sem.run_bind, run_isAgg ha, Result.andThen_ok, Bool.false_eq_true, if_false, run_load, hc]
 ·exact h.elim

theorem run_slBound {x : Value} {y : Nat} {k : IntKind} {i : Int} {code : BoundsCode} (hx : x = .int k i) (h0 : 0 ≤ i) (h1 : i ≤ (y : Int)) (w : World) :
  (Instr.sliceBound x y code).run P w = .ok i.toNat w := by
 subst hx
 simp [Instr.sliceBound, asIntOf, h0, h1]

theorem slHi_elim {d c : Nat} {hi : Option Value} {K : Nat → Prop} (h : slHi d c hi K) :
  (hi = none ∧ K d) ∨ ∃ k x, hi = some (.int k x) ∧ 0 ≤ x ∧ x ≤ (c : Int) ∧ K x.toNat := by
 unfold slHi at h
 split at h
 ·exact .inl ⟨rfl, h⟩
 ·exact .inr ⟨_, _, rfl, h⟩
 ·exact h.elim

theorem slK_sound {t e : TypeId} {p : Option Addr} {n c s : Nat} {lo hi mx : Option Value} {K : Value → Prop}
  (hu : P.underlying t = some (.slice e)) (hs : szT P e = some s) (h : slK p n c s lo hi mx K) :
  ∃ v, K v ∧ ∀ w : World, (Instr.sliceAt t (.slice p n c) lo hi mx).run P w = .ok v w := by
 unfold slK at h
 split at h
 ·exact h.elim
 ·rename_i hne
  have key : ∀ {m hh l : Nat}, (∀ w, (Instr.sliceBounds true n c lo hi mx).run P w = .ok (l, hh, m) w) →
    ∀ w : World, (Instr.sliceAt t (.slice p n c) lo hi mx).run P w = .ok (.slice (slP p m l s) (hh - l) (m - l)) w := by
   intro m hh l hb w
   simp [Instr.sliceAt, Instr.slice, run_under hu, run_sizeOf hs, hb, slP]
  rcases slHi_elim h with ⟨rfl, h1⟩ | ⟨k, x, rfl, x0, x1, h1⟩
  ·rcases slHi_elim h1 with ⟨rfl, h2⟩ | ⟨k, y, rfl, y0, y1, h2⟩
   ·rcases slHi_elim h2 with ⟨rfl, h3⟩ | ⟨k, z, rfl, z0, z1, h3⟩
    ·exact ⟨_, h3, key fun w => by simp [Instr.sliceBounds]⟩
    ·exact ⟨_, h3, key fun w => by simp [Instr.sliceBounds, run_slBound rfl z0 z1]⟩
   ·rcases slHi_elim h2 with ⟨rfl, h3⟩ | ⟨k, z, rfl, z0, z1, h3⟩
    ·exact ⟨_, h3, key fun w => by simp [Instr.sliceBounds, run_slBound rfl y0 y1]⟩
    ·exact ⟨_, h3, key fun w => by simp [Instr.sliceBounds, run_slBound rfl y0 y1, run_slBound rfl z0 z1]⟩
  ·rcases slHi_elim h1 with ⟨rfl, h2⟩ | ⟨k, y, rfl, y0, y1, h2⟩
   ·exact (hne _ rfl rfl).elim
   ·rcases slHi_elim h2 with ⟨rfl, h3⟩ | ⟨k, z, rfl, z0, z1, h3⟩
    ·exact ⟨_, h3, key fun w => by simp [Instr.sliceBounds, run_slBound rfl x0 x1, run_slBound rfl y0 y1]⟩
    ·exact ⟨_, h3, key fun w => by simp [Instr.sliceBounds, run_slBound rfl x0 x1, run_slBound rfl y0 y1, run_slBound rfl z0 z1]⟩

theorem run_eqIn_nilp {t e : TypeId} (hu : P.underlying t = some (.pointer e)) (d : Nat) (p : Option Addr) (w : World) :
  (Op.equalIn (d + 1) t (.pointer p) (.pointer none)).run P w = .ok p.isNone w := by
 cases p <;> simp [Op.equalIn, run_under hu]

theorem run_eqIn_nils {t e : TypeId} (hu : P.underlying t = some (.slice e)) (d : Nat) (p : Option Addr) (n c n' c' : Nat) (w : World) :
  (Op.equalIn (d + 1) t (.slice p n c) (.slice none n' c')).run P w = .ok p.isNone w := by
 cases p <;> simp [Op.equalIn, run_under hu]

theorem run_eq_nilp {t e : TypeId} (hu : P.underlying t = some (.pointer e)) (p : Option Addr) (w : World) :
  (Op.equal t (.pointer p) (.pointer none)).run P w = .ok p.isNone w := run_eqIn_nilp hu 9999 p w

theorem run_eq_nils {t e : TypeId} (hu : P.underlying t = some (.slice e)) (p : Option Addr) (n c n' c' : Nat) (w : World) :
  (Op.equal t (.slice p n c) (.slice none n' c')).run P w = .ok p.isNone w := run_eqIn_nils hu 9999 p n c n' c' w

theorem idxK_sound {e : TypeId} {cs : Array Value} {s : Nat} {k : Int} {K : Value → Prop} : ∀ (m j : Nat), idxK P e cs s k K m j → ∃ v, K v ∧ ∀ w : World, (part e cs (k.toNat * s)).run P w = .ok v w := by
 intro m
 induction m with
 | zero => intro j h; exact h.elim
 | succ m ih =>
  intro j h
  rcases iteB_elim h with ⟨hc, h1⟩ | ⟨_, h1⟩
  ·have hk : k = (j : Int) := by simpa using hc
   obtain ⟨v, hv, hr⟩ := valM_sound _ h1
   refine ⟨v, hv, fun w => ?_⟩
   rw [hk, Int.toNat_natCast]
   exact hr w
  ·exact ih (j + 1) h1

theorem run_partO {t : TypeId} {cs : Array Value} {off : Nat} {v : Value} (h : partO P t cs off = some v) (w : World) : (part t cs off).run P w = .ok v w := by
 unfold partO at h
 split at h
 ·rename_i n ha hs
  cases h
  simp [part, run_isAgg ha, run_sizeOf hs]
 ·rename_i ha
  simp [part, run_isAgg ha, h]
 ·cases h

theorem eqFs_sound {f : TypeId → Value → Value → Option Bool} {xs ys : Array Value} {d : Nat} (hf : ∀ t x y b, f t x y = some b → ∀ w : World, (Op.equalIn d t x y).run P w = .ok b w) : ∀ (fs : List Field) (b : Bool), eqFs P f xs ys fs = some b →
  ∀ w : World, Sem.run P (forIn fs ((none : Option Bool), ()) (fun (fl : Field) (_ : Option Bool × Unit) =>
   if fl.name = "_" then pure (ForInStep.yield ((none : Option Bool), ()))
   else do
    let a ← part fl.type xs fl.offset
    let b ← part fl.type ys fl.offset
    let c ← Op.equalIn d fl.type a b
    if c = false then pure (ForInStep.done (some false, ())) else pure (ForInStep.yield ((none : Option Bool), ())))) w = .ok (if b then (none, ()) else (some false, ())) w := by
 intro fs
 induction fs with
 | nil => intro b h w; cases h; simp
 | cons fl r ih =>
  intro b h w
  unfold eqFs at h
  split at h
  ·rename_i a b' hn ha hb
   split at h
   ·rename_i u v hu hv
    cases h
    have hn' : ¬ fl.name = "_" := by simpa using hn
    have h2 := ih v hv w
    rw [List.forIn_cons]
    simp only [hn', if_false]
    cases u with
    | false => simp [run_partO ha, run_partO hb, hf _ _ _ _ hu w]
    | true =>
     simp only [Bool.true_and]
     rw [← h2]
     simp [run_partO ha, run_partO hb, hf _ _ _ _ hu w]
   ·cases h
  ·cases h

theorem eqW_sound : ∀ (d : Nat) (t : TypeId) (x y : Value) (b : Bool), eqW P d t x y = some b → ∀ d', d ≤ d' → ∀ w : World, (Op.equalIn d' t x y).run P w = .ok b w := by
 intro d
 induction d with
 | zero => intro t x y b h; cases h
 | succ d ih =>
  intro t x y b h d' hd w
  obtain ⟨e, rfl⟩ : ∃ e, d' = e + 1 := ⟨d' - 1, by omega⟩
  unfold eqW at h
  split at h
  ·rename_i hu; cases h; simp [Op.equalIn, run_under hu]
  ·rename_i hu
   split at h
   ·rename_i hk; subst hk; cases h; simp [Op.equalIn, run_under hu]
   ·cases h
  ·rename_i hu; cases h; simp [Op.equalIn, run_under hu]
  ·rename_i fs xs ys hu
   split at h
   ·cases h
   ·rename_i hs
    have h2 := eqFs_sound (d := e) (fun t x y b hb w => ih t x y b hb e (by omega) w) fs.toList b h w
    rw [Array.forIn_toList] at h2
    simp [Op.equalIn, run_under hu, hs, h2]
    cases b <;> simp
  ·cases h

theorem eqBools_loop {e : TypeId} {n d : Nat} {f g : Nat → Bool} (hb : P.underlying e = some .bool) : ∀ (l : List Nat), (∀ i ∈ l, i < n) → ∀ w : World,
  Sem.run P (forIn l ((none : Option Bool), ()) (fun (i : Nat) (_ : Option Bool × Unit) => do
    let a ← part e (boolsV n f).toArray i
    let b ← part e (boolsV n g).toArray i
    let c ← Op.equalIn (d + 1) e a b
    if c = false then pure (ForInStep.done (some false, ())) else pure (ForInStep.yield ((none : Option Bool), ())))) w = .ok (if l.all (fun i => f i == g i) then (none, ()) else (some false, ())) w := by
 have ha : aggT P e = some false := by unfold aggT; rw [hb]
 intro l
 induction l with
 | nil => intro _ w; simp
 | cons i l ih =>
  intro hl w
  have hi := hl i (by simp)
  have hp : ∀ h : Nat → Bool, partO P e (boolsV n h).toArray i = some (.bool (h i)) := fun h => by
   unfold partO
   rw [ha]
   simp [boolsV, hi]
  have h2 := ih (fun j hj => hl j (by simp [hj])) w
  rw [List.forIn_cons]
  have he : (Op.equalIn (d + 1) e (.bool (f i)) (.bool (g i))).run P w = .ok (f i == g i) w := by simp [Op.equalIn, run_under hb]
  simp only [Sem.run_bind, run_partO (hp f), run_partO (hp g), Result.andThen_ok, he]
  cases hq : (f i == g i) with
  | false => simp [hq]
  | true =>
   simp only [List.all_cons, hq, Bool.true_and]
   rw [← h2]
   simp

theorem eqBools_sound {t : TypeId} {n : Nat} {f g : Nat → Bool} (h : boolArr P t = some n) (d : Nat) (w : World) : (Op.equalIn (d + 2) t (.agg (boolsV n f).toArray) (.agg (boolsV n g).toArray)).run P w = .ok (eqBools n f g) w := by
 unfold boolArr at h
 split at h
 ·rename_i m e hu
  split at h
  ·rename_i hb hs
   cases h
   have h2 := eqBools_loop (d := d) (f := f) (g := g) hb (List.range' 0 n 1) (fun i hi => by simp [List.mem_range'] at hi; omega) w
   unfold eqBools
   rw [List.range_eq_range']
   rw [Op.equalIn]
   generalize (List.range' 0 n 1).all (fun i => f i == g i) = q at h2 ⊢
   cases q <;> simp [run_under hu, run_sizeOf hs, h2]
  ·cases h
 ·cases h

def LK (P : Program) (o : Oper) (ev : Operand → Value) (H H' : Heap) : Prop := ∀ t x a n, o.op = .load t x → ev x = .pointer (some a) → szT P t = some n → KeepR H H' a n
theorem LK.refl (o : Oper) (ev : Operand → Value) (H : Heap) : LK P o ev H H := fun _ _ a n _ _ _ => .refl H a n

set_option maxHeartbeats 1000000 in
theorem stepV_sound {o : Oper} {ev : Operand → Value} {H : Heap} {K : Value → Prop} (hc : ∀ v, ev (.const v) = v) (h : stepV P o ev H K) :
  ∃ v, K v ∧ ∀ w : World, LK P o ev H w.heap → (execOp ev o).run P w = .ok (.value v) w := by
 obtain ⟨dst, op, type, pos, after, guard⟩ := o
 unfold stepV at h
 dsimp only at h
 split at h
 · -- load
  split at h
  ·rename_i t x a hx
   obtain ⟨v, hK, hr⟩ := ldV_sound h
   exact ⟨v, hK, fun w he => by simp [execOp, Instr.loadAt, Instr.sureAddr, hx, hr w (fun n hn => he _ _ _ _ rfl hx hn)]⟩
  ·exact h.elim
 · -- nilCheck
  split at h
  ·rename_i x p hx
   obtain ⟨a, rfl, hK⟩ := unSome_elim h
   exact ⟨_, hK, fun w _ => by simp [execOp, hx]⟩
  ·exact h.elim
 · -- pick
  split at h
  ·rename_i c x y b hb
   rcases iteB_elim h with ⟨rfl, hK⟩ | ⟨rfl, hK⟩
   ·exact ⟨_, hK, fun w _ => by simp [execOp, hb, asBool]⟩
   ·exact ⟨_, hK, fun w _ => by simp [execOp, hb, asBool]⟩
  ·exact h.elim
 · -- indexAddr
  split at h
  ·rename_i t x i _ p n c k q e hx hi hu
   split at h
   ·rename_i s hs
    obtain ⟨h0, h1, h2⟩ := h
    obtain ⟨a, rfl, hK⟩ := unSome_elim h2
    exact ⟨_, hK, fun w _ => by simp [execOp, Instr.indexAt, hx, hi, asIntOf, run_under hu, h0, h1, run_sizeOf hs]⟩
   ·exact h.elim
  ·rename_i t x i _ a k q n e hx hi hu
   split at h
   ·rename_i s hs
    obtain ⟨h0, h1, hK⟩ := h
    exact ⟨_, hK, fun w _ => by simp [execOp, Instr.indexAt, hx, hi, asIntOf, run_under hu, h0, h1, run_sizeOf hs, Instr.sureAddr]⟩
   ·exact h.elim
  ·exact h.elim
 · -- index
  split at h
  ·rename_i t x i _ cs q k n e hx hi hu
   split at h
   ·rename_i s hs
    obtain ⟨h0, h1, h2⟩ := h
    obtain ⟨v, hK, hr⟩ := idxK_sound _ _ h2
    exact ⟨v, hK, fun w _ => by simp [execOp, Instr.index, hx, hi, asIntOf, run_under hu, h0, h1, run_sizeOf hs, hr w]⟩
   ·exact h.elim
  ·rename_i t x i _ b q k hx hi hu
   obtain ⟨h0, h1, hK⟩ := h
   have hlt : k.toNat < b.size := by omega
   exact ⟨_, hK, fun w _ => by simp [execOp, Instr.index, hx, hi, asIntOf, run_under hu, h0, hlt]⟩
  ·exact h.elim
 · -- slice
  split at h
  ·rename_i t x lo hi mx _ p n c e hx hu
   split at h
   ·rename_i s hs
    obtain ⟨v, hK, hr⟩ := slK_sound hu hs h
    exact ⟨v, hK, fun w _ => by simp [execOp, hx, hr w]⟩
   ·exact h.elim
  ·exact h.elim
 · -- quo const
  split at h
  ·rename_i x k' b _ _ k a hx
   split at h
   ·rename_i hk
    subst hk
    split at h
    ·exact h.elim
    ·rename_i hb
     have hb' : b ≠ 0 := by simpa using hb
     exact ⟨_, h, fun w _ => by simp [execOp, hx, hc, eqGuard, binOp, Op.intDiv, hb']⟩
   ·exact h.elim
  ·exact h.elim
 ·split at h
  ·rename_i x k' b _ _ k a hx
   split at h
   ·rename_i hk
    subst hk
    split at h
    ·exact h.elim
    ·rename_i hb
     have hb' : b ≠ 0 := by simpa using hb
     exact ⟨_, h, fun w _ => by simp [execOp, hx, hc, eqGuard, binOp, Op.intDiv, hb']⟩
   ·exact h.elim
  ·exact h.elim
 ·split at h
  ·rename_i x y _ k a k' b hx hy
   split at h
   ·rename_i hk
    subst hk
    obtain ⟨hb, hK⟩ := h
    exact ⟨_, hK, fun w _ => by simp [execOp, hx, hy, eqGuard, binOp, Op.intDiv, hb]⟩
   ·exact h.elim
  ·exact h.elim
 ·split at h
  ·rename_i x y _ k a k' b hx hy
   split at h
   ·rename_i hk
    subst hk
    obtain ⟨hb, hK⟩ := h
    exact ⟨_, hK, fun w _ => by simp [execOp, hx, hy, eqGuard, binOp, Op.intDiv, hb]⟩
   ·exact h.elim
  ·exact h.elim
 ·split at h
  ·rename_i x y _ k a k' b hx hy
   obtain ⟨hb, hK⟩ := h
   have hb' : ¬ b < 0 := by omega
   exact ⟨_, hK, fun w _ => by simp [execOp, hx, hy, eqGuard, binOp, Op.shift, hb']⟩
  ·exact h.elim
 ·split at h
  ·rename_i x y _ k a k' b hx hy
   obtain ⟨hb, hK⟩ := h
   have hb' : ¬ b < 0 := by omega
   exact ⟨_, hK, fun w _ => by simp [execOp, hx, hy, eqGuard, binOp, Op.shift, hb']⟩
  ·exact h.elim
 ·split at h
  ·rename_i t x _ _ p e hx hu
   exact ⟨_, h, fun w _ => by simp [execOp, hx, hc, eqGuard, binOp, run_eq_nilp hu]⟩
  ·exact h.elim
 ·split at h
  ·rename_i t x _ _ p e hx hu
   exact ⟨_, h, fun w _ => by simp [execOp, hx, hc, eqGuard, binOp, run_eq_nilp hu]⟩
  ·exact h.elim
 ·split at h
  ·rename_i t x _ _ _ _ p n c e hx hu
   exact ⟨_, h, fun w _ => by simp [execOp, hx, hc, eqGuard, binOp, run_eq_nils hu]⟩
  ·exact h.elim
 ·split at h
  ·rename_i t x _ _ _ _ p n c e hx hu
   exact ⟨_, h, fun w _ => by simp [execOp, hx, hc, eqGuard, binOp, run_eq_nils hu]⟩
  ·exact h.elim
 ·unfold eqK at h
  split at h
  ·rename_i t x y _ _ _ xs ys hx hy
   split at h
   ·exact h.elim
   ·rename_i hg
    split at h
    ·rename_i n hn
     obtain ⟨f, g, rfl, rfl, hK⟩ := h
     have this := fun w => eqBools_sound (P := P) (f := f) (g := g) hn (Op.maxDepth - 2) w
     rw [show Op.maxDepth - 2 + 2 = Op.maxDepth by decide] at this
     exact ⟨_, hK, fun w _ => by simp [execOp, hx, hy, eqGuard, hg, binOp, Op.equal, this w]⟩
    ·split at h
     ·rename_i b he
      exact ⟨_, h, fun w _ => by simp [execOp, hx, hy, eqGuard, hg, binOp, Op.equal, eqW_sound 8 _ _ _ _ he Op.maxDepth (by decide) w]⟩
     ·exact h.elim
  ·obtain ⟨nx, hK, hr⟩ := valM_sound _ h
   cases nx with
   | value v => exact ⟨v, hK, fun w _ => hr w⟩
   | _ => exact hK.elim
 ·unfold eqK at h
  split at h
  ·rename_i t x y _ _ _ xs ys hx hy
   split at h
   ·exact h.elim
   ·rename_i hg
    split at h
    ·rename_i n hn
     obtain ⟨f, g, rfl, rfl, hK⟩ := h
     have this := fun w => eqBools_sound (P := P) (f := f) (g := g) hn (Op.maxDepth - 2) w
     rw [show Op.maxDepth - 2 + 2 = Op.maxDepth by decide] at this
     exact ⟨_, hK, fun w _ => by simp [execOp, hx, hy, eqGuard, hg, binOp, Op.equal, this w]⟩
    ·split at h
     ·rename_i b he
      exact ⟨_, h, fun w _ => by simp [execOp, hx, hy, eqGuard, hg, binOp, Op.equal, eqW_sound 8 _ _ _ _ he Op.maxDepth (by decide) w]⟩
     ·exact h.elim
  ·obtain ⟨nx, hK, hr⟩ := valM_sound _ h
   cases nx with
   | value v => exact ⟨v, hK, fun w _ => hr w⟩
   | _ => exact hK.elim
 ·obtain ⟨nx, hK, hr⟩ := valM_sound _ h
  cases nx with
  | value v => exact ⟨v, hK, fun w _ => hr w⟩
  | _ => exact hK.elim

theorem exV_elim : ∀ (zs : List Value) {K : List Value → Prop}, exV zs K → ∃ vs, K vs := by
 intro zs
 induction zs with
 | nil => intro K h; exact ⟨[], h⟩
 | cons z zs ih => intro K h; obtain ⟨x, hx⟩ := h; obtain ⟨vs, hv⟩ := ih hx; exact ⟨_, hv⟩

theorem castT_elim {t : TypeId} {v : Value} {K : Value → Prop} (h : castT P t v K) : K v := by
 unfold castT at h
 split at h
 ·unfold castV at h
  split at h
  ·obtain ⟨vs, rfl, hK⟩ := exV_elim _ h; exact hK
  ·obtain ⟨vs, rfl, hK⟩ := exV_elim _ h; exact hK
  ·obtain ⟨x, rfl, hK⟩ := h; exact hK
 ·exact h.elim

theorem callable_elim {f : FuncId} (h : callable P f = true) (args : Array Value) (w : World) : (callFunc f args).run P w = .ok (.enter f args) w := by
 unfold callable at h
 split at h
 ·rename_i fn hf
  simp only [Bool.and_eq_true, Bool.not_eq_true'] at h
  obtain ⟨h1, h2⟩ := h
  have h3 : fn.body ≠ none := by intro e; simp [e] at h1
  have h4 : fn.name ≠ "runtime.NumGoroutine" := by simpa using h2
  simp [callFunc, program, Sem.run, bind, Sem.bind, hf, h4, h3, pure]
 ·cases h

theorem modify_modify (H : Heap) (b : Nat) (f g : Obj → Obj) : (H.modify b f).modify b g = H.modify b (fun o => g (f o)) := by
 apply Array.ext_getElem?
 intro i
 rw [Array.getElem?_modify, Array.getElem?_modify, Array.getElem?_modify]
 by_cases hb : b = i
 ·subst hb; simp only [if_true]; cases H[b]? <;> rfl
 ·simp only [hb, if_false]

theorem modify_get {H : Heap} {b : Nat} {f : Obj → Obj} {o : Obj} (h : H[b]? = some o) : (H.modify b f)[b]? = some (f o) := by
 simp [Array.getElem?_modify, h]

theorem updO_updO (f g : Array Value → Array Value) (o : Obj) : updO g (updO f o) = updO (fun c => g (f c)) o := by cases o <;> rfl
theorem updO_id (o : Obj) : updO (fun c => c) o = o := by cases o <;> rfl

theorem modify_id (H : Heap) (b : Nat) : H.modify b (updO (fun c => c)) = H := by
 apply Array.ext_getElem?
 intro j
 rw [Array.getElem?_modify]
 split
 ·cases H[j]? with
  | none => rfl
  | some o => simp [updO_id]
 ·rfl

theorem setCell_eq (w : World) (b o : Nat) (v : Value) :
  w.setCell ⟨b, o, none⟩ v = { w with heap := w.heap.modify b (updO (fun c => c.setIfInBounds o v)) } := by
 unfold World.setCell
 congr 2

theorem run_stCells {a : Addr} (hs : a.spot = none) : ∀ (vs : List Value) (i : Nat) (w : World) (c : Array Value) (e : TypeId),
  w.heap[a.block]? = some (.cells c e (0, 0)) → a.off + i + vs.length ≤ c.size → vs.all oneC = true →
  (storeCells a vs i).run P w = .ok () { w with heap := w.heap.modify a.block (updO (fun c => splice c (a.off + i) vs)) } := by
 intro vs
 induction vs with
 | nil =>
  intro i w c e hb _ _
  simp only [storeCells, Sem.run_pure, splice, modify_id]
 | cons v vs ih =>
  intro i w c e hb hl hall
  simp only [List.all_cons, Bool.and_eq_true] at hall
  simp only [List.length_cons] at hl
  have hadd : a.add i = ⟨a.block, a.off + i, none⟩ := by
   unfold Addr.add
   split
   ·rename_i h0; subst h0; cases a; simp_all
   ·rfl
  have hcell : w.cell? (a.add i) = some (c[a.off + i]'(by omega)) := by
   rw [hadd]; simp only [World.cell?, hb]; simp
  have hfz : w.frozen? (a.add i) = false := by
   rw [hadd]; simp only [World.frozen?, hb]; simp
  have hst : (store (a.add i) v).run P w = .ok () (w.setCell (a.add i) v) := by
   cases v <;> simp_all [store, Sem.run, oneC]
  have hse : w.setCell (a.add i) v = { w with heap := w.heap.modify a.block (updO (fun c => c.setIfInBounds (a.off + i) v)) } := by
   rw [hadd, setCell_eq]
  have hb' : (w.setCell (a.add i) v).heap[a.block]? = some (.cells (c.setIfInBounds (a.off + i) v) e (0, 0)) := by
   rw [hse]; exact modify_get hb
  simp only [storeCells, Sem.run_bind, hst, Result.andThen_ok]
  rw [ih (i + 1) _ _ _ hb' (by simp; omega) hall.2, hse]
  simp only [modify_modify, updO_updO]
  rfl

theorem stV_sound {t : TypeId} {H : Heap} {a : Addr} {v : Value} {K : Heap → Prop} (h : stV P t H a v K) :
  ∃ H', K H' ∧ ∀ w : World, w.heap = H → (storeVar t a v).run P w = .ok () { w with heap := H' } := by
 unfold stV at h
 split at h
 ·rename_i n hn hall
  split at h
  ·rename_i hsz
   obtain ⟨⟨c, e, hb, hs, hl⟩, hK⟩ := h
   refine ⟨_, hK, fun w hw => ?_⟩
   have hsz' := Nat.eq_of_beq_eq_true hsz
   subst hw
   have := run_stCells (P := P) hs v.cells.toList 0 w c e hb (by simp; omega) hall
   simp only [storeVar, Sem.run_bind, run_sizeOf hn, Result.andThen_ok, hsz', ne_eq, not_true, if_false, Sem.run_ite, this]
   rfl
  ·exact h.elim
 ·exact h.elim

theorem wrap_i64 {n : Int} (h0 : -9223372036854775808 ≤ n) (h1 : n ≤ 9223372036854775807) : IntKind.i64.wrap n = n := IntWalk.i64_in n ⟨h0, h1⟩

theorem runH_op {o : Oper} {a : Act} {w : World} {H : Heap} {K : Value → Heap → Prop} {next : Act → World → Prop} {Q : Exit → Act → World → Prop}
  (hw : w.heap = H) (h : runH P (execOp a.eval o) H (fun nx H' => match nx with | .value v => K v H' | _ => False))
  (hn : ∀ v w', Same w w' → K v w'.heap → next (a.put o.dst v) w') : o.wp P a w next Q := by
 obtain ⟨nx, w', hr, hs, hK⟩ := h w hw
 unfold Oper.wp
 rw [hr]
 cases nx with
 | value v => exact hn v w' hs hK
 | _ => exact hK.elim

theorem runH_map {α : Type} {s : Sem Value} {H : Heap} {K : Value → Heap → Prop} (f : Value → α) {K' : α → Heap → Prop} (h : runH P s H K) (hk : ∀ v H, K v H → K' (f v) H) :
  runH P (do pure (f (← s))) H K' := by
 intro w hw
 obtain ⟨v, w', hr, hs, hK⟩ := h w hw
 exact ⟨f v, w', by simp [hr], hs, hk _ _ hK⟩

theorem runH_mono {α : Type} {s : Sem α} {H : Heap} {K K' : α → Heap → Prop} (h : runH P s H K) (hk : ∀ v H, K v H → K' v H) : runH P s H K' := by
 intro w hw
 obtain ⟨v, w', hr, hs, hK⟩ := h w hw
 exact ⟨v, w', hr, hs, hk _ _ hK⟩

theorem mkK_sound {t e : TypeId} {k k' : IntKind} {l c : Int} {H : Heap} {K : Value → Heap → Prop} (hu : P.underlying t = some (.slice e)) (h : mkK P e l c H K) :
  runH P (Instr.makeSlice t (.int k l) (.int k' c)) H K := by
 unfold mkK at h
 split at h
 ·rename_i i hi
  split at h
  ·rename_i z hz
   split at h
   ·rename_i hb hsz
    obtain ⟨h0, h1, h2, hK⟩ := h
    intro w hw
    have hb' : 1 ≤ i.bytes := by simpa [Nat.blt, Nat.ble_eq] using hb
    have hsz' := Nat.eq_of_beq_eq_true hsz
    have hc0 : 0 ≤ c := Int.le_trans h0 h1
    have hcb : c ≤ 281474976710656 := by
     have : c * 1 ≤ c * (i.bytes : Int) := Int.mul_le_mul_of_nonneg_left (by omega) hc0
     omega
    have hwl : IntKind.i64.wrap l = l := wrap_i64 (by omega) (by omega)
    have hwc : IntKind.i64.wrap c = c := wrap_i64 (by omega) (by omega)
    refine ⟨_, { w with heap := w.heap.push (.cells (zeroRow z c.toNat) e (0, 0)) }, ?_, ⟨rfl, rfl, rfl⟩, by simpa [hw] using hK⟩
    have hinfo : (typeInfo e).run P w = .ok i w := by simp [typeInfo, program, Sem.run, bind, Sem.bind, hi, pure]
    have hzv : ∀ w, (zeroValue e).run P w = .ok z w := fun w => by simp [zeroValue, typeInfo, program, Sem.run, bind, Sem.bind, hi, hz, pure]
    have hso : ∀ w, (sizeOf e).run P w = .ok i.size w := fun w => run_sizeOf (by simp [szT, hi]) w
    have hbig : ¬ ((i.bytes : Int) * c > 281474976710656) := by rw [Int.mul_comm]; omega
    have hlt : ¬ c < 0 := by omega
    have hl0 : ¬ l < 0 := by omega
    have hlc : ¬ l > c := by omega
    have hroom : ∀ n w, (askRoom n).run P w = .ok () w := by
     intro n w; unfold askRoom; split
     ·rfl
     ·rfl
    by_cases hn : c.toNat * i.size = 0
    ·simp [Instr.makeSlice, run_under hu, asInt, asIntOf, hinfo, hwl, hwc, hbig, hlt, hl0, hlc, hroom, hso, hn, newRow, newObj, Sem.run, zeroRow, hsz']
     subst hw
     have e0 : Array.range 0 = #[] := rfl
     rw [e0]
     refine ⟨rfl, ?_⟩
     simp only [Array.map_empty]
    ·simp [Instr.makeSlice, run_under hu, asInt, asIntOf, hinfo, hwl, hwc, hbig, hlt, hl0, hlc, hroom, hso, hn, hzv, newRow, newObj, Sem.run, zeroRow, hsz']
     subst hw
     rfl
   ·exact h.elim
  ·exact h.elim
 ·exact h.elim

set_option maxHeartbeats 1000000 in
theorem stepH_sound {o : Oper} {ev : Operand → Value} {a : Act} {w : World} {H : Heap} {K : Value → Heap → Prop} {next : Act → World → Prop} {Q : Exit → Act → World → Prop}
  (hc : ∀ v, ev (.const v) = v) (hev : execOp a.eval o = execOp ev o) (hw : w.heap = H) (h : stepH P o ev H K)
  (hn : ∀ v w', Same w w' → K v w'.heap → next (a.put o.dst v) w') : o.wp P a w next Q := by
 unfold stepH at h
 split at h
 ·rename_i f args ats ho
  split at h
  ·rename_i g first caps hf
   split at h
   ·rename_i hcl
    have hrun : (execOp a.eval o).run P w = .ok (.enter g (first ++ args.map ev ++ caps)) w := by
     rw [hev]
     simp [execOp, ho, resolve, Deferred.ofValue, hf, invoke, callable_elim hcl]
    unfold Oper.wp
    rw [hrun]
    refine (h w hw).mono ?_
    rintro e w' ⟨v, rfl, hs, hK⟩
    exact hn v w' hs (castT_elim hK)
   ·refine runH_op hw (K := K) ?_ hn
    rw [hev]
    have : execOp ev o = callFunc g (first ++ args.map ev ++ caps) := by
     simp [execOp, ho, resolve, Deferred.ofValue, hf, invoke]
    rw [this]
    refine runH_mono h (fun nx H' hx => ?_)
    cases nx <;> simp only [nextV] at hx ⊢
    exact castT_elim hx
  ·exact h.elim
 ·rename_i args ats ho
  refine runH_op hw (K := K) ?_ hn
  rw [hev]
  have : execOp ev o = (do pure (.value (← Builtin.append_ ats o.type (args.map ev)))) := by
   simp [execOp, ho, resolve, invoke, builtin]
  rw [this]
  exact runH_map _ h (fun v H hv => castT_elim hv)
 ·rename_i args ats ho
  refine runH_op hw (K := K) ?_ hn
  rw [hev]
  have : execOp ev o = (do pure (.value (← Builtin.clear_ ats o.type (args.map ev)))) := by
   simp [execOp, ho, resolve, invoke, builtin]
  rw [this]
  exact runH_map _ h (fun v H hv => castT_elim hv)
 ·rename_i args ats ho
  refine runH_op hw (K := K) ?_ hn
  rw [hev]
  have : execOp ev o = (do pure (.value (← Builtin.copy_ ats o.type (args.map ev)))) := by
   simp [execOp, ho, resolve, invoke, builtin]
  rw [this]
  exact runH_map _ h (fun v H hv => castT_elim hv)
 ·rename_i t x y ho
  split at h
  ·rename_i ad hx
   obtain ⟨H', hK, hr⟩ := stV_sound h
   have hrun : (execOp a.eval o).run P w = .ok .skip { w with heap := H' } := by
    rw [hev]
    simp [execOp, ho, Instr.storeAt, Instr.sureAddr, hx, hr w hw]
   unfold Oper.wp
   rw [hrun]
   exact hn undef { w with heap := H' } ⟨rfl, rfl, rfl⟩ hK
  ·exact h.elim
 ·rename_i t x y ok ho
  refine runH_op hw (K := K) ?_ hn
  rw [hev]
  have : execOp ev o = (do pure (.value (← Instr.lookup t (ev x) (ev y) ok))) := by
   simp [execOp, ho]
  rw [this]
  exact runH_map _ h (fun v H hv => castT_elim hv)
 ·rename_i t x y z ho
  obtain ⟨u, w', hr, hs, hK⟩ := h w hw
  have hrun : (execOp a.eval o).run P w = .ok .skip w' := by
   rw [hev]
   simp [execOp, ho, hr]
  unfold Oper.wp
  rw [hrun]
  exact hn undef w' hs hK
 ·exact runH_op hw (by rw [hev]; exact wpM_sound _ h) hn
 ·rename_i t l c ho
  split at h
  ·rename_i e k l' k' c' hu hl hc'
   refine runH_op hw (K := K) ?_ hn
   rw [hev]
   have : execOp ev o = (do pure (.value (← Instr.makeSlice t (.int k l') (.int k' c')))) := by
    simp [execOp, ho, hl, hc']
   rw [this]
   exact runH_map _ (mkK_sound hu h) (fun v H hv => hv)
  ·exact h.elim
 ·exact runH_op hw (by rw [hev]; exact wpM_sound _ h) hn
 ·exact runH_op hw (by rw [hev]; exact wpM_sound _ h) hn
 ·exact runH_op hw (by rw [hev]; exact wpM_sound _ h) hn
 ·obtain ⟨v, hK, hr⟩ := stepV_sound hc h
  unfold Oper.wp
  rw [hev, hr w (by rw [hw]; exact .refl _ _ _)]
  exact hn v w (.refl w) (by rw [hw]; exact hK)

/-! ### the environment agrees with the frame -/

structure Agr (N : Nat) (a : Act) (E : Env) : Prop where
 size : a.tmps.size = N
 defers : a.defers = []
 get : ∀ t v, look E t = some v → a.tmps[t]? = some v

def Fr (F : List Nat) (a0 a : Act) : Prop := ∀ t, memN t F = false → a.tmps[t]? = a0.tmps[t]?

theorem Fr.refl (F : List Nat) (a : Act) : Fr F a a := fun _ _ => rfl
theorem Fr.trans {F : List Nat} {a b c : Act} (h : Fr F a b) (k : Fr F b c) : Fr F a c := fun t ht => (k t ht).trans (h t ht)

theorem memN_append (n : Nat) (a b : List Nat) : memN n (a ++ b) = (memN n a || memN n b) := by
 induction a with
 | nil => simp [memN]
 | cons x r ih =>
  simp only [List.cons_append, memN]
  split
  ·rfl
  ·exact ih

theorem Fr.left {F G : List Nat} {a b : Act} (h : Fr F a b) : Fr (F ++ G) a b := fun t ht => h t (by rw [memN_append] at ht; simp at ht; exact ht.1)
theorem Fr.right {F G : List Nat} {a b : Act} (h : Fr G a b) : Fr (F ++ G) a b := fun t ht => h t (by rw [memN_append] at ht; simp at ht; exact ht.2)

theorem look_cons (i : Nat) (v : Value) (E : Env) (t : Nat) : look ((i, v) :: E) t = if i = t then some v else look E t := by
 show (match Nat.beq i t with | true => some v | false => look E t) = _
 by_cases h : i = t
 ·subst h; simp [Nat.beq_refl]
 ·have : Nat.beq i t = false := by
   cases hb : Nat.beq i t with
   | false => rfl
   | true => exact absurd (Nat.eq_of_beq_eq_true hb) h
  simp [this, h]

theorem Agr.eval {N : Nat} {a : Act} {E : Env} (h : Agr N a E) {x : Operand} (hk : knownX E x = true) : a.eval x = evE E x := by
 cases x with
 | tmp t =>
  simp only [knownX] at hk
  cases hl : look E t with
  | none => rw [hl] at hk; cases hk
  | some v => simp [Act.eval, evE, hl, h.get t v hl]
 | _ => rfl

theorem knownL_mem {E : Env} {l : List Operand} (h : knownL E l = true) : ∀ x ∈ l, knownX E x = true := by
 induction l with
 | nil => intro x hx; cases hx
 | cons y r ih =>
  simp only [knownL] at h
  split at h
  ·rename_i hy
   intro x hx
   cases hx with
   | head => exact hy
   | tail _ hm => exact ih h x hm
  ·cases h

theorem Agr.exec {N : Nat} {a : Act} {E : Env} (h : Agr N a E) {o : Oper} (hk : knownL E o.op.operands.toList = true) (hs : noSel o.op = true) :
  execOp a.eval o = execOp (evE E) o := by
 refine execOp_congr o ?_ (fun x hx => h.eval (knownL_mem hk x (by simpa using hx)))
 intro cs b e
 rw [e] at hs
 cases hs

theorem Agr.put {N : Nat} {a : Act} {E E' : Env} (h : Agr N a E) {dst : Option Tmp} {v : Value} (hp : putE N E dst v = some E') : Agr N (a.put dst v) E' := by
 cases dst with
 | none =>
  simp only [putE, Option.some.injEq] at hp
  subst hp
  exact h
 | some d =>
  simp only [putE] at hp
  split at hp
  ·rename_i hd
   simp only [Option.some.injEq] at hp
   subst hp
   have hd2 : d + 1 ≤ N := by simpa [Nat.blt, Nat.ble_eq] using hd
   have hd' : d < N := hd2
   refine ⟨by simp [Act.put, h.size], h.defers, fun t u hu => ?_⟩
   rw [look_cons] at hu
   simp only [Act.put, Array.getElem?_setIfInBounds, h.size, hd']
   by_cases e : d = t
   ·subst e
    simp only [if_true] at hu
    simpa using hu
   ·simp only [e, if_false] at hu ⊢
    exact h.get t u hu
  ·cases hp

theorem Agr.know {N : Nat} {a : Act} {E : Env} (h : Agr N a E) {t : Nat} {v : Value} (ht : look E t = some v) : Agr N a ((t, v) :: E) :=
 ⟨h.size, h.defers, fun u x hu => by
  rw [look_cons] at hu
  by_cases e : t = u
  ·subst e; simp only [if_true] at hu; cases hu; exact h.get _ _ ht
  ·simp only [e, if_false] at hu; exact h.get u x hu⟩

theorem put_fr (a : Act) (dst : Option Tmp) (v : Value) : Fr (match dst with | some d => [d] | none => []) a (a.put dst v) := by
 cases dst with
 | none => exact Fr.refl _ _
 | some d =>
  intro t ht
  have hne : d ≠ t := by
   intro e; subst e
   simp [memN, Nat.beq_refl] at ht
  simp [Act.put, Array.getElem?_setIfInBounds_ne hne]

theorem guardK_elim {N : Nat} {ops : Array Oper} {o : Oper} {E : Env} {go skip : Env → Prop} {a : Act} (ha : Agr N a E) (h : guardK ops o E go skip) :
  ∃ E', Agr N a E' ∧ ((Region.wanted o (yielded ops a.tmps) = true ∧ go E') ∨ (Region.wanted o (yielded ops a.tmps) = false ∧ skip E')) := by
 unfold guardK at h
 split at h
 ·rename_i hg
  exact ⟨E, ha, .inl ⟨by simp [Region.wanted, hg], h⟩⟩
 ·rename_i j want hg
  split at h
  ·exact h.elim
  ·rename_i t ht
   split at h
   ·exact h.elim
   ·rename_i b hb
    have hy : yielded ops a.tmps j = some b := by
     unfold yielded
     rw [ht]
     simp [ha.get t _ hb]
    rcases iteB_elim h with ⟨rfl, h⟩ | ⟨rfl, h⟩
    ·refine ⟨_, ha.know hb, ?_⟩
     cases want
     ·exact .inr ⟨by simp [Region.wanted, hg, hy], h⟩
     ·exact .inl ⟨by simp [Region.wanted, hg, hy], h⟩
    ·refine ⟨_, ha.know hb, ?_⟩
     cases want
     ·exact .inl ⟨by simp [Region.wanted, hg, hy], h⟩
     ·exact .inr ⟨by simp [Region.wanted, hg, hy], h⟩
   ·rename_i vs hb
    have hy : yielded ops a.tmps j = none := by
     unfold yielded
     rw [ht]
     simp [ha.get t _ hb]
    exact ⟨E, ha, .inr ⟨by simp [Region.wanted, hg, hy], h⟩⟩
   ·exact h.elim

def post (N : Nat) (w0 : World) (F : List Nat) (a0 : Act) (K : KK) : Exit → Act → World → Prop :=
 fun e a w => ∃ E, Agr N a E ∧ Same w0 w ∧ Fr F a0 a ∧ K e E w.heap

theorem evE_const (E : Env) (v : Value) : evE E (.const v) = v := rfl

theorem dstsL_cons (o : Oper) (r : List Oper) : dstsL (o :: r) = (match o.dst with | some d => [d] | none => []) ++ dstsL r := by
 simp only [dstsL]
 cases o.dst <;> rfl

theorem opsH_sound {N : Nat} {ops : Array Oper} : ∀ (l : List Oper) {E : Env} {H : Heap} {K : Env → Heap → Prop} {a : Act} {w w0 : World} {Q : Exit → Act → World → Prop},
  Agr N a E → w.heap = H → Same w0 w → opsH P N ops l E H K →
  (∀ a' w' E', Agr N a' E' → Same w0 w' → Fr (dstsL l) a a' → K E' w'.heap → Q .normal a' w') → wpList P ops Q l a w := by
 intro l
 induction l with
 | nil =>
  intro E H K a w w0 Q ha hw hs h hq
  subst hw
  exact hq a w E ha hs (Fr.refl _ _) h
 | cons o rest ih =>
  intro E H K a w w0 Q ha hw hs h hq
  simp only [opsH] at h
  obtain ⟨E1, ha1, hcase⟩ := guardK_elim ha h
  unfold wpList
  rcases hcase with ⟨hwant, hgo⟩ | ⟨hwant, hskip⟩
  ·rw [if_pos hwant]
   split at hgo
   ·rename_i hk hsel
    refine .inl (stepH_sound (evE_const E1) (ha1.exec hk hsel) hw hgo ?_)
    intro v w' hs' hK
    split at hK
    ·rename_i E2 hp
     refine ih (ha1.put hp) rfl (hs.trans hs') hK (fun a' w'' E' g1 g2 g3 g4 => hq a' w'' E' g1 g2 ?_ g4)
     rw [dstsL_cons]
     exact (Fr.left (put_fr a o.dst v)).trans (Fr.right g3)
    ·exact hK.elim
   ·exact hgo.elim
  ·rw [if_neg (by rw [hwant]; simp)]
   split at hskip
   ·rename_i E2 hp
    refine ih (ha1.put hp) hw hs hskip (fun a' w'' E' g1 g2 g3 g4 => hq a' w'' E' g1 g2 ?_ g4)
    rw [dstsL_cons]
    exact (Fr.left (put_fr a o.dst undef)).trans (Fr.right g3)
   ·exact hskip.elim

/-! ### regions that draw their order -/

theorem edgesBack_spec {i : Nat} : ∀ (l : List Edge), edgesBack i l = true → ∀ e ∈ l, Region.binds .any e = true → e.on < i := by
 intro l
 induction l with
 | nil => intro _ e he; cases he
 | cons x r ih =>
  intro h e he hb
  simp only [edgesBack] at h
  split at h
  ·cases h
  ·rename_i hne
   cases he with
   | head =>
    have : Nat.blt x.on i = true := by
     cases hx : Nat.blt x.on i with
     | true => rfl
     | false => exact (hne hb hx).elim
    have h2 : x.on + 1 ≤ i := by simpa [Nat.blt, Nat.ble_eq] using this
    exact h2
   | tail _ hm => exact ih h e hm hb

theorem byEdge_spec {n T k : Nat} : ∀ (l : List Edge), byEdge n T k l = true → ∃ e ∈ l, Region.binds .any e = true ∧ (e.on = k ∨ Nat.testBit (before n T e.on) k = true) := by
 intro l
 induction l with
 | nil => intro h; cases h
 | cons x r ih =>
  intro h
  have rec' : byEdge n T k r = true → ∃ e ∈ x :: r, Region.binds .any e = true ∧ (e.on = k ∨ Nat.testBit (before n T e.on) k = true) := by
   intro hr
   obtain ⟨e, he, hx⟩ := ih hr
   exact ⟨e, .tail _ he, hx⟩
  simp only [byEdge] at h
  cases hb : Region.binds .any x with
  | false => rw [hb] at h; exact rec' h
  | true =>
   cases hk : Nat.beq x.on k with
   | true => exact ⟨x, .head _, hb, .inl (Nat.eq_of_beq_eq_true hk)⟩
   | false =>
    cases ht : Nat.testBit (before n T x.on) k with
    | true => exact ⟨x, .head _, hb, .inr ht⟩
    | false => rw [hb, hk, ht] at h; exact rec' h

theorem rowOk_spec {n T i : Nat} {es : List Edge} : ∀ (m : Nat), rowOk n T i es m = true → ∀ k, k < m → Nat.testBit (before n T i) k = true → byEdge n T k es = true := by
 intro m
 induction m with
 | zero => intro _ k hk; omega
 | succ m ih =>
  intro h k hk hb
  simp only [rowOk] at h
  split at h
  ·rename_i hm
   split at h
   ·rename_i he
    by_cases e : k = m
    ·subst e; exact he
    ·exact ih h k (by omega) hb
   ·cases h
  ·rename_i hm
   by_cases e : k = m
   ·subst e; rw [hb] at hm; cases hm
   ·exact ih h k (by omega) hb

theorem before_lt {n T i k : Nat} (h : Nat.testBit (before n T i) k = true) : k < n := by
 unfold before at h
 have h' : ((T >>> (i * n)) &&& (2 ^ n - 1)).testBit k = true := h
 rw [Nat.testBit_and, Nat.testBit_two_pow_sub_one] at h'
 simp at h'
 exact h'.2

structure TabOk (ops : Array Oper) (n T : Nat) : Prop where
 back : ∀ i o, ops[i]? = some o → ∀ e ∈ o.after.toList, Region.binds .any e = true → e.on < i
 by_edge : ∀ i o, ops[i]? = some o → ∀ k, Nat.testBit (before n T i) k = true → ∃ e ∈ o.after.toList, Region.binds .any e = true ∧ (e.on = k ∨ Nat.testBit (before n T e.on) k = true)

theorem tabOk_list {n T : Nat} : ∀ (l : List Oper) (i : Nat), tabOk n T i l = true → ∀ j o, l[j]? = some o →
  edgesBack (i + j) o.after.toList = true ∧ rowOk n T (i + j) o.after.toList n = true := by
 intro l
 induction l with
 | nil => intro i _ j o h; simp at h
 | cons x r ih =>
  intro i h j o hj
  simp only [tabOk] at h
  split at h
  ·rename_i h1 h2
   cases j with
   | zero => simp at hj; subst hj; exact ⟨h1, h2⟩
   | succ j =>
    have := ih (i + 1) h j o (by simpa using hj)
    rw [show i + (j + 1) = i + 1 + j by omega]
    exact this
  ·cases h

theorem tabOk_spec {ops : Array Oper} {n T : Nat} (h : tabOk n T 0 ops.toList = true) : TabOk ops n T := by
 constructor
 ·intro i o ho e he hb
  have := tabOk_list ops.toList 0 h i o (by simpa using ho)
  rw [Nat.zero_add] at this
  exact edgesBack_spec _ this.1 e he hb
 ·intro i o ho k hk
  have := tabOk_list ops.toList 0 h i o (by simpa using ho)
  rw [Nat.zero_add] at this
  exact byEdge_spec _ (rowOk_spec n this.2 k (before_lt hk) hk)

def Down (ops : Array Oper) (listed : Array Bool) : Prop :=
 ∀ i o, ops[i]? = some o → listed.getD i false = true → ∀ e ∈ o.after.toList, Region.binds .any e = true → listed.getD e.on false = true

theorem TabOk.listed {ops : Array Oper} {n T : Nat} (h : TabOk ops n T) {listed : Array Bool} (hd : Down ops listed) : ∀ (i : Nat) (o : Oper), ops[i]? = some o →
  (∀ e ∈ o.after.toList, Region.binds .any e = true → listed.getD e.on false = true) → ∀ k, Nat.testBit (before n T i) k = true → listed.getD k false = true := by
 intro i
 induction i using Nat.strongRecOn with
 | _ i ih =>
  intro o ho hall k hk
  obtain ⟨e, he, hb, hor⟩ := h.by_edge i o ho k hk
  rcases hor with rfl | hor
  ·exact hall e he hb
  ·have hlt := h.back i o ho e he hb
   have hil : i < ops.size := by
    rcases Nat.lt_or_ge i ops.size with hh | hh
    ·exact hh
    ·rw [Array.getElem?_eq_none hh] at ho; cases ho
   obtain ⟨o2, ho2⟩ : ∃ o2, ops[e.on]? = some o2 := ⟨ops[e.on]'(by omega), Array.getElem?_eq_getElem _⟩
   exact ih e.on hlt o2 ho2 (hd e.on o2 ho2 (hall e he hb)) k hor

theorem TabOk.lt {ops : Array Oper} {n T : Nat} (h : TabOk ops n T) : ∀ (i : Nat) (o : Oper), ops[i]? = some o → ∀ k, Nat.testBit (before n T i) k = true → k < i := by
 intro i
 induction i using Nat.strongRecOn with
 | _ i ih =>
  intro o ho k hk
  obtain ⟨e, he, hb, hor⟩ := h.by_edge i o ho k hk
  have hlt := h.back i o ho e he hb
  rcases hor with rfl | hor
  ·exact hlt
  ·have hil : i < ops.size := by
    rcases Nat.lt_or_ge i ops.size with hh | hh
    ·exact hh
    ·rw [Array.getElem?_eq_none hh] at ho; cases ho
   have := ih e.on hlt (ops[e.on]'(by omega)) (Array.getElem?_eq_getElem _) k hor
   omega

theorem ready_iff {n T D i : Nat} : Eng.ready n T D i = true ↔ ∀ k, Nat.testBit (before n T i) k = true → Nat.testBit D k = true := by
 unfold Eng.ready
 constructor
 ·intro h k hk
  have h' := Nat.eq_of_beq_eq_true h
  have h2 : (before n T i &&& D) = before n T i := h'
  rw [← h2, Nat.testBit_and] at hk
  simp at hk
  exact hk.2
 ·intro h
  have : (before n T i &&& D) = before n T i := by
   apply Nat.eq_of_testBit_eq
   intro k
   rw [Nat.testBit_and]
   cases hb : Nat.testBit (before n T i) k with
   | false => rfl
   | true => simp [h k hb]
  show Nat.beq (before n T i &&& D) (before n T i) = true
  rw [this]
  exact Nat.beq_refl _

theorem behind_spec {ops : Array Oper} {n T j d : Nat} : ∀ (l : List Oper) (i : Nat), behind ops n T j d i l = true → ∀ m o, l[m]? = some o → i + m ≠ j → memN d (namesOf ops o) = true → Nat.testBit (before n T (i + m)) j = true := by
 intro l
 induction l with
 | nil => intro i _ m o h; simp at h
 | cons x r ih =>
  intro i h m o hm hne hd
  have rec' : behind ops n T j d (Nat.succ i) r = true → ∀ m', m = m' + 1 → Nat.testBit (before n T (i + m)) j = true := by
   intro hr m' e
   subst e
   have := ih (i + 1) hr m' o (by simpa using hm) (by omega) hd
   rw [show i + (m' + 1) = i + 1 + m' by omega]
   exact this
  simp only [behind] at h
  cases m with
  | zero =>
   simp at hm
   subst hm
   have hb : Nat.beq i j = false := by
    cases hx : Nat.beq i j with
    | false => rfl
    | true => exact absurd (Nat.eq_of_beq_eq_true hx) (by simpa using hne)
   rw [hb, hd] at h
   simp only at h
   split at h
   ·simpa using ‹_›
   ·cases h
  | succ m' =>
   split at h
   ·split at h
    ·exact rec' h m' rfl
    ·cases h
   ·exact rec' h m' rfl

theorem aside_spec {ops : Array Oper} {n T j d : Nat} : ∀ (l : List Oper) (i : Nat), aside ops n T j d i l = true → ∀ m o, l[m]? = some o → i + m ≠ j → memN d (namesOf ops o) = true →
  Nat.testBit (before n T (i + m)) j = true ∨ Nat.testBit (before n T j) (i + m) = true := by
 intro l
 induction l with
 | nil => intro i _ m o h; simp at h
 | cons x r ih =>
  intro i h m o hm hne hd
  have rec' : aside ops n T j d (Nat.succ i) r = true → ∀ m', m = m' + 1 → Nat.testBit (before n T (i + m)) j = true ∨ Nat.testBit (before n T j) (i + m) = true := by
   intro hr m' e
   subst e
   have := ih (i + 1) hr m' o (by simpa using hm) (by omega) hd
   rw [show i + (m' + 1) = i + 1 + m' by omega]
   exact this
  simp only [aside] at h
  cases m with
  | zero =>
   simp at hm
   subst hm
   have hb : Nat.beq i j = false := by
    cases hx : Nat.beq i j with
    | false => rfl
    | true => exact absurd (Nat.eq_of_beq_eq_true hx) (by simpa using hne)
   rw [hb, hd] at h
   simp only at h
   split at h
   ·cases h
   ·rename_i hno
    rw [Nat.add_zero]
    cases h1 : Nat.testBit (before n T i) j with
    | true => exact .inl rfl
    | false =>
     cases h2 : Nat.testBit (before n T j) i with
     | true => exact .inr rfl
     | false => exact (hno h1 h2).elim
  | succ m' =>
   split at h
   ·split at h
    ·cases h
    ·exact rec' h m' rfl
   ·exact rec' h m' rfl

structure LightOk (ops : Array Oper) (pf : List Nat) (n T lt : Nat) : Prop where
 light : ∀ j, Nat.testBit lt j = true → ∃ o d, ops[j]? = some o ∧ o.dst = some d ∧ lightOp pf o.op = true ∧ memN d (readsOf ops o) = false ∧
  ∀ k o', ops[k]? = some o' → k ≠ j → memN d (namesOf ops o') = true → Nat.testBit (before n T k) j = true
 heavy : ∀ j o d, ops[j]? = some o → Nat.testBit lt j = false → o.dst = some d →
  ∀ k o', ops[k]? = some o' → k ≠ j → memN d (namesOf ops o') = true → Nat.testBit (before n T k) j = true ∨ Nat.testBit (before n T j) k = true

theorem lightBits_list {ops : Array Oper} {pf : List Nat} {n T : Nat} : ∀ (l : List Oper) (i : Nat) (j : Nat), Nat.testBit (lightBits ops pf n T i l) j = true →
  ∃ o d, i ≤ j ∧ l[j - i]? = some o ∧ o.dst = some d ∧ lightOp pf o.op = true ∧ behind ops n T j d 0 ops.toList = true ∧ memN d (readsOf ops o) = false := by
 intro l
 induction l with
 | nil => intro i j h; simp [lightBits] at h
 | cons x r ih =>
  intro i j h
  have rec' : Nat.testBit (lightBits ops pf n T (Nat.succ i) r) j = true → ∃ o d, i ≤ j ∧ (x :: r)[j - i]? = some o ∧ o.dst = some d ∧ lightOp pf o.op = true ∧ behind ops n T j d 0 ops.toList = true ∧ memN d (readsOf ops o) = false := by
   intro hr
   obtain ⟨o, d, h1, h2, h3⟩ := ih (i + 1) j hr
   refine ⟨o, d, by omega, ?_, h3⟩
   rw [show j - i = (j - (i + 1)) + 1 by omega]
   simpa using h2
  simp only [lightBits] at h
  split at h
  ·rename_i d hd hl
   split at h
   ·rename_i hb
    simp only [Bool.and_eq_true, Bool.not_eq_true'] at hb
    have h' : (2 ^ i ||| lightBits ops pf n T (Nat.succ i) r).testBit j = true := h
    rw [Nat.testBit_or] at h'
    by_cases e : i = j
    ·subst e
     exact ⟨x, d, Nat.le_refl _, by simp, hd, hl, hb.1, hb.2⟩
    ·rw [Nat.testBit_two_pow_of_ne e] at h'
     simp at h'
     exact rec' h'
   ·exact rec' h
  ·exact rec' h

theorem heavyOk_list {ops : Array Oper} {n T lt : Nat} : ∀ (l : List Oper) (i : Nat), heavyOk ops n T lt i l = true → ∀ m o d, l[m]? = some o → Nat.testBit lt (i + m) = false → o.dst = some d →
  aside ops n T (i + m) d 0 ops.toList = true := by
 intro l
 induction l with
 | nil => intro i _ m o d h; simp at h
 | cons x r ih =>
  intro i h m o d hm hlt hd
  have rec' : heavyOk ops n T lt (Nat.succ i) r = true → ∀ m', m = m' + 1 → aside ops n T (i + m) d 0 ops.toList = true := by
   intro hr m' e
   subst e
   have := ih (i + 1) hr m' o d (by simpa using hm) (by rw [show i + 1 + m' = i + (m' + 1) by omega]; exact hlt) hd
   rw [show i + (m' + 1) = i + 1 + m' by omega]
   exact this
  simp only [heavyOk] at h
  cases m with
  | zero =>
   simp at hm
   subst hm
   rw [Nat.add_zero] at hlt
   rw [hlt, hd] at h
   simp only at h
   split at h
   ·simpa using ‹_›
   ·cases h
  | succ m' =>
   split at h
   ·split at h
    ·exact rec' h m' rfl
    ·cases h
   ·exact rec' h m' rfl

theorem lightOk_spec {ops : Array Oper} {pf : List Nat} {n T : Nat} (h : heavyOk ops n T (lightBits ops pf n T 0 ops.toList) 0 ops.toList = true) :
  LightOk ops pf n T (lightBits ops pf n T 0 ops.toList) := by
 constructor
 ·intro j hj
  obtain ⟨o, d, _, h2, h3, h4, h5, h6⟩ := lightBits_list ops.toList 0 j hj
  refine ⟨o, d, by simpa using h2, h3, h4, h6, fun k o' hk hne hm => ?_⟩
  have := behind_spec ops.toList 0 h5 k o' (by simpa using hk) (by omega) hm
  rwa [Nat.zero_add] at this
 ·intro j o d hj hlt hd k o' hk hne hm
  have h1 := heavyOk_list ops.toList 0 h j o d (by simpa using hj) (by rw [Nat.zero_add]; exact hlt) hd
  rw [Nat.zero_add] at h1
  have := aside_spec ops.toList 0 h1 k o' (by simpa using hk) (by omega) hm
  rwa [Nat.zero_add] at this

theorem stepL_sound {o : Oper} {ev : Operand → Value} {H : Heap} {K : Value → Prop} (hc : ∀ v, ev (.const v) = v) (hfn : ∀ f, ev (.func f) = .func (.func f) #[] #[]) (h : stepL P o ev H K) :
  ∃ v, K v ∧ ∀ (a : Act) (w : World) (next : Act → World → Prop) (Q : Exit → Act → World → Prop), execOp a.eval o = execOp ev o → LK P o ev H w.heap →
   (∀ w', w'.heap = w.heap → Same w w' → next (a.put o.dst v) w') → o.wp P a w next Q := by
 unfold stepL at h
 split at h
 ·rename_i f args ats ho
  split at h
  ·rename_i hcl
   obtain ⟨v, hv, hK⟩ := h
   refine ⟨v, castT_elim hK, fun a w next Q hev _ hn => ?_⟩
   have hrun : (execOp a.eval o).run P w = .ok (.enter f (args.map ev)) w := by
    rw [hev]
    simp [execOp, ho, resolve, Deferred.ofValue, hfn, invoke, callable_elim hcl]
   unfold Oper.wp
   rw [hrun]
   refine (hv w.heap w rfl).mono ?_
   rintro e w' ⟨v', rfl, hs, rfl, he⟩
   exact hn w' he hs
  ·exact h.elim
 ·obtain ⟨v, hK, hr⟩ := stepV_sound hc h
  refine ⟨v, hK, fun a w next Q hev hx hn => ?_⟩
  unfold Oper.wp
  rw [hev, hr w hx]
  exact hn w rfl (.refl w)

theorem evE_look {E E' : Env} (h : ∀ t, look E t = look E' t) (x : Operand) : evE E x = evE E' x := by
 cases x with
 | tmp t => simp only [evE, h t]
 | _ => rfl

def Reads (ops : Array Oper) (o : Oper) (E : Env) (a : Act) : Prop := ∀ t u, memN t (readsOf ops o) = true → look E t = some u → a.tmps[t]? = some u

def Yields (P : Program) (ops : Array Oper) (E : Env) (H : Heap) (o : Oper) (v : Value) : Prop :=
 ∀ (a : Act) (w : World) (next : Act → World → Prop) (Q : Exit → Act → World → Prop), Reads ops o E a → LK P o (evE E) H w.heap →
  (∀ w', w'.heap = w.heap → Same w w' → next (a.put o.dst v) w') →
  if Region.wanted o (yielded ops a.tmps) then o.wp P a w next Q else next (a.put o.dst undef) w

theorem memN_tmpsOf {t : Nat} : ∀ (l : List Operand), Operand.tmp t ∈ l → memN t (tmpsOf l) = true := by
 intro l
 induction l with
 | nil => intro h; cases h
 | cons x r ih =>
  intro h
  cases h with
  | head => simp [tmpsOf, memN, Nat.beq_refl]
  | tail _ hm =>
   have := ih hm
   cases x with
   | tmp u =>
    simp only [tmpsOf, memN]
    split
    ·rfl
    ·exact this
   | _ => exact this

theorem memN_left {n : Nat} {a b : List Nat} (h : memN n a = true) : memN n (a ++ b) = true := by rw [memN_append, h]; rfl
theorem memN_right {n : Nat} {a b : List Nat} (h : memN n b = true) : memN n (a ++ b) = true := by rw [memN_append, h]; simp

theorem Reads.exec {ops : Array Oper} {o : Oper} {E : Env} {a : Act} (h : Reads ops o E a) (hk : knownL E o.op.operands.toList = true) (hs : noSel o.op = true) :
  execOp a.eval o = execOp (evE E) o := by
 refine execOp_congr o ?_ (fun x hx => ?_)
 ·intro cs b e
  rw [e] at hs
  cases hs
 ·have hx' : x ∈ o.op.operands.toList := by simpa using hx
  have hkx := knownL_mem hk x hx'
  cases x with
  | tmp t =>
   simp only [knownX] at hkx
   cases hl : look E t with
   | none => rw [hl] at hkx; cases hkx
   | some v => simp [Act.eval, evE, hl, h t v (memN_left (memN_tmpsOf _ hx')) hl]
  | _ => rfl

theorem look_know {E : Env} {t : Nat} {v : Value} (h : look E t = some v) : ∀ s, look ((t, v) :: E) s = look E s := by
 intro s
 rw [look_cons]
 by_cases e : t = s
 ·subst e; simp [h]
 ·simp [e]

theorem guardK_cases {ops : Array Oper} {o : Oper} {E : Env} {go skip : Env → Prop} (h : guardK ops o E go skip) :
  ∃ E', (∀ t, look E' t = look E t) ∧ ((go E' ∧ ∀ a : Act, Reads ops o E a → Region.wanted o (yielded ops a.tmps) = true) ∨ (skip E' ∧ ∀ a : Act, Reads ops o E a → Region.wanted o (yielded ops a.tmps) = false)) := by
 unfold guardK at h
 split at h
 ·rename_i hg
  exact ⟨E, fun _ => rfl, .inl ⟨h, fun a _ => by simp [Region.wanted, hg]⟩⟩
 ·rename_i j want hg
  split at h
  ·exact h.elim
  ·rename_i t ht
   have hmem : memN t (readsOf ops o) = true := by
    refine memN_right ?_
    rw [hg]
    simp only [ht]
    simp [memN, Nat.beq_refl]
   split at h
   ·exact h.elim
   ·rename_i b hb
    have hy : ∀ a : Act, Reads ops o E a → yielded ops a.tmps j = some b := by
     intro a ha
     unfold yielded
     rw [ht]
     simp [ha t _ hmem hb]
    rcases iteB_elim h with ⟨rfl, h⟩ | ⟨rfl, h⟩
    ·refine ⟨_, look_know hb, ?_⟩
     cases want
     ·exact .inr ⟨h, fun a ha => by simp [Region.wanted, hg, hy a ha]⟩
     ·exact .inl ⟨h, fun a ha => by simp [Region.wanted, hg, hy a ha]⟩
    ·refine ⟨_, look_know hb, ?_⟩
     cases want
     ·exact .inl ⟨h, fun a ha => by simp [Region.wanted, hg, hy a ha]⟩
     ·exact .inr ⟨h, fun a ha => by simp [Region.wanted, hg, hy a ha]⟩
   ·rename_i vs hb
    have hy : ∀ a : Act, Reads ops o E a → yielded ops a.tmps j = none := by
     intro a ha
     unfold yielded
     rw [ht]
     simp [ha t _ hmem hb]
    exact ⟨E, fun _ => rfl, .inr ⟨h, fun a ha => by simp [Region.wanted, hg, hy a ha]⟩⟩
   ·exact h.elim

theorem Yields.congr {ops : Array Oper} {E E' : Env} {H H' : Heap} {o : Oper} {v : Value} (h : Yields P ops E H o v) (he : ∀ t, memN t (readsOf ops o) = true → look E' t = look E t)
  (hh : LK P o (evE E) H H') : Yields P ops E' H' o v := by
 intro a w next Q hr hx hn
 refine h a w next Q (fun t u ht hu => hr t u ht (by rw [he t ht]; exact hu)) (fun t x b n ho hb hs => (hh t x b n ho hb hs).trans (hx t x b n ho ?_ hs)) hn
 rw [← hb]
 cases x with
 | tmp s =>
  have hm : memN s (readsOf ops o) = true := by
   unfold readsOf
   refine memN_left (memN_tmpsOf _ ?_)
   rw [ho]
   simp [Op.operands]
  simp only [evE, he s hm]
 | _ => rfl

structure PI (P : Program) (ops : Array Oper) (n T lt N : Nat) (listed : Array Bool) (D : Nat) (E : Env) (a : Act) (H : Heap) : Prop where
 lsize : listed.size = n
 l2d : ∀ i, listed.getD i false = true → Nat.testBit D i = true
 d2l : ∀ i, Nat.testBit D i = true → Nat.testBit lt i = false → listed.getD i false = true
 dlt : ∀ i, Nat.testBit D i = true → i < n
 down : Down ops listed
 rows : ∀ i, Nat.testBit D i = true → ∀ k, Nat.testBit (before n T i) k = true → Nat.testBit D k = true
 size : a.tmps.size = N
 defers : a.defers = []
 agree : ∀ t u, look E t = some u → a.tmps[t]? = some u ∨ ∃ k o, ops[k]? = some o ∧ Nat.testBit D k = true ∧ listed.getD k false = false ∧ o.dst = some t
 pend : ∀ k, Nat.testBit D k = true → listed.getD k false = false → ∃ o d v, ops[k]? = some o ∧ o.dst = some d ∧ d < N ∧ look E d = some v ∧ Yields P ops E H o v

theorem bit_or_pow {D i k : Nat} : Nat.testBit (Nat.lor D (Nat.pow 2 i)) k = (Nat.testBit D k || decide (i = k)) := by
 show (D ||| 2 ^ i).testBit k = _
 rw [Nat.testBit_or]
 by_cases e : i = k
 ·subst e; simp
 ·simp [Nat.testBit_two_pow_of_ne e, e]

theorem memN_names {ops : Array Oper} {o : Oper} {t : Nat} (h : memN t (readsOf ops o) = true) : memN t (namesOf ops o) = true := memN_right h
theorem memN_dst {ops : Array Oper} {o : Oper} {t : Nat} (h : o.dst = some t) : memN t (namesOf ops o) = true := by
 refine memN_left ?_
 rw [h]
 simp [memN, Nat.beq_refl]

section
variable {ops : Array Oper} {pf : List Nat} {n T lt N : Nat} {listed : Array Bool} {D : Nat} {E : Env} {a : Act} {H : Heap}

theorem PI.reads (h : PI P ops n T lt N listed D E a H) (tab : TabOk ops n T) (lok : LightOk ops pf n T lt) {i : Nat} {o : Oper} (ho : ops[i]? = some o)
  (hr : ∀ e ∈ o.after.toList, Region.binds .any e = true → listed.getD e.on false = true) : Reads ops o E a := by
 intro t u ht hu
 rcases h.agree t u hu with g | ⟨k, o', hk, hD, hl, hd⟩
 ·exact g
 ·exfalso
  have hlt : Nat.testBit lt k = true := by
   cases hx : Nat.testBit lt k with
   | true => rfl
   | false => rw [h.d2l k hD hx] at hl; cases hl
  obtain ⟨o2, d, ho2, hd2, _, hself, hbeh⟩ := lok.light k hlt
  rw [hk] at ho2
  cases ho2
  rw [hd] at hd2
  cases hd2
  by_cases e : i = k
  ·subst e
   rw [ho] at hk
   cases hk
   rw [ht] at hself
   cases hself
  ·have hb := hbeh i o ho e (memN_names ht)
   have := tab.listed h.down i o ho hr k hb
   rw [this] at hl
   cases hl

theorem PI.take (h : PI P ops n T lt N listed D E a H) (lok : LightOk ops pf n T lt) {j d : Nat} {o : Oper} {E1 : Env} {v : Value} (ho : ops[j]? = some o) (hjn : j < n) (hlt : Nat.testBit lt j = true)
  (hD : Nat.testBit D j = false) (hrow : ∀ k, Nat.testBit (before n T j) k = true → Nat.testBit D k = true) (hE1 : ∀ t, look E1 t = look E t) (hd : o.dst = some d) (hdN : d < N)
  (hy : Yields P ops E H o v) : PI P ops n T lt N listed (Nat.lor D (Nat.pow 2 j)) ((d, v) :: E1) a H := by
 obtain ⟨o2, d2, ho2, hd2, _, hself, hbeh⟩ := lok.light j hlt
 rw [ho] at ho2
 cases ho2
 rw [hd] at hd2
 cases hd2
 have hnl : listed.getD j false = false := by
  cases hx : listed.getD j false with
  | false => rfl
  | true => rw [h.l2d j hx] at hD; cases hD
 have hlook : ∀ t, t ≠ d → look ((d, v) :: E1) t = look E t := by
  intro t ht
  rw [look_cons, if_neg (fun e => ht e.symm), hE1]
 refine ⟨h.lsize, ?_, ?_, ?_, h.down, ?_, h.size, h.defers, ?_, ?_⟩
 ·intro i hi
  rw [bit_or_pow, h.l2d i hi]; rfl
 ·intro i hi hh
  rw [bit_or_pow] at hi
  by_cases e : j = i
  ·subst e; rw [hlt] at hh; cases hh
  ·simp [e] at hi; exact h.d2l i hi hh
 ·intro i hi
  rw [bit_or_pow] at hi
  by_cases e : j = i
  ·subst e; exact hjn
  ·simp [e] at hi; exact h.dlt i hi
 ·intro i hi k hk
  rw [bit_or_pow] at hi ⊢
  by_cases e : j = i
  ·subst e; rw [hrow k hk]; rfl
  ·simp [e] at hi; rw [h.rows i hi k hk]; rfl
 ·intro t u hu
  by_cases e : t = d
  ·subst e
   exact .inr ⟨j, o, ho, by rw [bit_or_pow]; simp, hnl, hd⟩
  ·rw [hlook t e] at hu
   rcases h.agree t u hu with g | ⟨k, o', hk, hD', hl, hd'⟩
   ·exact .inl g
   ·exact .inr ⟨k, o', hk, by rw [bit_or_pow, hD']; rfl, hl, hd'⟩
 ·intro k hk hl
  rw [bit_or_pow] at hk
  by_cases e : j = k
  ·subst e
   refine ⟨o, d, v, ho, hd, hdN, by rw [look_cons]; simp, hy.congr (fun t ht => ?_) (.refl _ _ _)⟩
   refine hlook t (fun e => ?_)
   subst e
   rw [ht] at hself
   cases hself
  ·simp [e] at hk
   obtain ⟨o', d', v', g1, g2, g3, g4, g5⟩ := h.pend k hk hl
   have hno : ∀ t, memN t (namesOf ops o') = true → t ≠ d := by
    intro t ht e2
    subst e2
    have := h.rows k hk j (hbeh k o' g1 (fun e3 => e e3.symm) ht)
    rw [this] at hD
    cases hD
   refine ⟨o', d', v', g1, g2, g3, ?_, g5.congr (fun t ht => hlook t (hno t (memN_names ht))) (.refl _ _ _)⟩
   rw [hlook d' (hno d' (memN_dst g2))]
   exact g4

end

section
variable {ops : Array Oper} {pf : List Nat} {n T lt N : Nat} {listed : Array Bool} {a : Act} {H : Heap}

theorem putE_some {E E' : Env} {d : Nat} {v : Value} (h : putE N E (some d) v = some E') : d < N ∧ E' = (d, v) :: E := by
 simp only [putE] at h
 split at h
 ·rename_i hd
  have hd2 : d + 1 ≤ N := by simpa [Nat.blt, Nat.ble_eq] using hd
  exact ⟨hd2, (Option.some.inj h).symm⟩
 ·cases h

theorem eager_sound (tab : TabOk ops n T) (lok : LightOk ops pf n T lt) (hn : n = ops.size) {Kc : Nat → Env → Prop} : ∀ (l : List Oper) (i D : Nat) (E : Env), (∀ m, l[m]? = ops[i + m]?) →
  PI P ops n T lt N listed D E a H → (∀ k, k < i → Nat.testBit lt k = true → Eng.ready n T D k = true → Nat.testBit D k = true) → eagerH P N ops n T lt H i l D E Kc →
  ∃ D' E', PI P ops n T lt N listed D' E' a H ∧ Kc D' E' ∧ ∀ k, Nat.testBit lt k = true → Eng.ready n T D' k = true → Nat.testBit D' k = true := by
 intro l
 induction l with
 | nil =>
  intro i D E hl hp hc h
  refine ⟨D, E, hp, h, fun k hk hr => hc k ?_ hk hr⟩
  obtain ⟨o, _, ho, _⟩ := lok.light k hk
  have h0 := hl 0
  simp at h0
  have hi : ops.size ≤ i := h0
  have hk' : k < ops.size := by
   rcases Nat.lt_or_ge k ops.size with hh | hh
   ·exact hh
   ·rw [Array.getElem?_eq_none hh] at ho; cases ho
  omega
 | cons o r ih =>
  intro i D E hl hp hc h
  have ho : ops[i]? = some o := by have := hl 0; simpa using this.symm
  have hin : i < n := by
   rw [hn]
   rcases Nat.lt_or_ge i ops.size with hh | hh
   ·exact hh
   ·rw [Array.getElem?_eq_none hh] at ho; cases ho
  have hl' : ∀ m, r[m]? = ops[i + 1 + m]? := by
   intro m
   have := hl (m + 1)
   rw [show i + 1 + m = i + (m + 1) by omega]
   simpa using this
  -- the step where nothing is taken
  have pass : (Nat.testBit lt i = true → Eng.ready n T D i = true → Nat.testBit D i = true) → eagerH P N ops n T lt H (Nat.succ i) r D E Kc →
    ∃ D' E', PI P ops n T lt N listed D' E' a H ∧ Kc D' E' ∧ ∀ k, Nat.testBit lt k = true → Eng.ready n T D' k = true → Nat.testBit D' k = true := by
   intro hi hr
   refine ih (i + 1) D E hl' hp (fun k hk h1 h2 => ?_) hr
   by_cases e : k = i
   ·subst e; exact hi h1 h2
   ·exact hc k (by omega) h1 h2
  simp only [eagerH] at h
  split at h
  ·rename_i hD hlt hrd
   have hrow := ready_iff.1 hrd
   obtain ⟨o2, d, ho2, hd, _, _, _⟩ := lok.light i hlt
   rw [ho] at ho2
   cases ho2
   -- what follows once the value is known
   have go : ∀ (E1 : Env) (v : Value), (∀ t, look E1 t = look E t) → Yields P ops E H o v → d < N → eagerH P N ops n T lt H (Nat.succ i) r (Nat.lor D (Nat.pow 2 i)) ((d, v) :: E1) Kc →
     ∃ D' E', PI P ops n T lt N listed D' E' a H ∧ Kc D' E' ∧ ∀ k, Nat.testBit lt k = true → Eng.ready n T D' k = true → Nat.testBit D' k = true := by
    intro E1 v hE1 hy hdN hr
    refine ih (i + 1) _ _ hl' (hp.take lok ho hin hlt hD hrow hE1 hd hdN hy) (fun k hk h1 h2 => ?_) hr
    rw [bit_or_pow]
    by_cases e : i = k
    ·simp [e]
    ·simp only [e, decide_false, Bool.or_false]
     refine hc k (by omega) h1 (ready_iff.2 fun m hm => ?_)
     have := ready_iff.1 h2 m hm
     rw [bit_or_pow] at this
     obtain ⟨ok, _, hok, _⟩ := lok.light k h1
     have hlt2 := tab.lt k ok hok m hm
     have hne : i ≠ m := by omega
     simpa [hne] using this
   obtain ⟨E1, hE1, hcase⟩ := guardK_cases h
   have hre : ∀ a' : Act, Reads ops o E a' → Reads ops o E1 a' := fun a' h' t u ht hu => h' t u ht (by rw [← hE1]; exact hu)
   rcases hcase with ⟨hgo, hwant⟩ | ⟨hskip, hwant⟩
   ·split at hgo
    ·rename_i hk hs
     obtain ⟨v, hK, hy⟩ := stepL_sound (evE_const E1) (fun _ => rfl) hgo
     split at hK
     ·rename_i E2 hput
      rw [hd] at hput
      obtain ⟨hdN, rfl⟩ := putE_some hput
      refine go E1 v hE1 (fun a' w' next Q hr hx hnx => ?_) hdN hK
      rw [if_pos (hwant a' hr)]
      exact hy a' w' next Q ((hre a' hr).exec hk hs) (fun t x b m ho hb hs => hx t x b m ho (by rw [← hb]; exact (evE_look hE1 x).symm) hs) hnx
     ·exact hK.elim
    ·exact hgo.elim
   ·split at hskip
    ·rename_i E2 hput
     rw [hd] at hput
     obtain ⟨hdN, rfl⟩ := putE_some hput
     refine go E1 undef hE1 (fun a' w' next Q hr hx hnx => ?_) hdN hskip
     rw [if_neg (by rw [hwant a' hr]; simp)]
     exact hnx w' rfl (.refl _)
    ·exact hskip.elim
  ·rename_i hno
   refine pass (fun h1 h2 => ?_) h
   cases hx : Nat.testBit D i with
   | true => rfl
   | false => exact (hno hx h1 h2).elim

theorem mem_readyHeavy {D : Nat} : ∀ (l : List Oper) (i k : Nat), i ≤ k → k < i + l.length → Nat.testBit D k = false → Nat.testBit lt k = false → Eng.ready n T D k = true → k ∈ readyHeavy n T lt D i l := by
 intro l
 induction l with
 | nil => intro i k h1 h2; simp at h2; omega
 | cons o r ih =>
  intro i k h1 h2 hD hlt hr
  simp only [readyHeavy]
  simp only [List.length_cons] at h2
  by_cases e : i = k
  ·subst e
   rw [hD, hlt, hr]
   exact .head _
  ·have := ih (i + 1) k (by omega) (by omega) hD hlt hr
   split
   ·exact .tail _ this
   ·exact this

theorem conjL_mem {F : Nat → Prop} : ∀ (l : List Nat), conjL l F → ∀ i ∈ l, F i := by
 intro l
 induction l with
 | nil => intro _ i hi; cases hi
 | cons x r ih =>
  intro h i hi
  cases r with
  | nil =>
   cases hi with
   | head => exact h
   | tail _ hm => cases hm
  | cons y r =>
   obtain ⟨h1, h2⟩ := h
   cases hi with
   | head => exact h1
   | tail _ hm => exact ih h2 i hm

theorem openLs_congr {D i : Nat} {E E' : Env} (h : ∀ t, look E t = look E' t) : ∀ (l : List Oper) (k : Nat), openLs P n T D i E k l = openLs P n T D i E' k l := by
 intro l
 induction l with
 | nil => intro k; rfl
 | cons o r ih =>
  intro k
  have hl : loadAt P E o.op = loadAt P E' o.op := by
   cases o.op <;> simp only [loadAt, evE_look h]
  simp only [openLs, hl, ih]

theorem openLs_mem {D i : Nat} {E : Env} : ∀ (l : List Oper) (k m : Nat) (o : Oper) (t : TypeId) (x : Operand) (a : Addr) (z : Nat), l[m]? = some o → o.op = .load t x → evE E x = .pointer (some a) → szT P t = some z →
  Nat.testBit D (k + m) = true → Nat.testBit (before n T i) (k + m) = false → (a, z) ∈ openLs P n T D i E k l := by
 intro l
 induction l with
 | nil => intro k m o t x a z h; simp at h
 | cons y r ih =>
  intro k m o t x a z hm h1 h2 h3 h4 h5
  simp only [openLs]
  cases m with
  | zero =>
   simp at hm
   subst hm
   rw [Nat.add_zero] at h4 h5
   simp only [h1, isLoad, h4, h5, loadAt, h2, h3]
   exact .head _
  | succ m =>
   have := ih (k + 1) m o t x a z (by simpa using hm) h1 h2 h3 (by rw [show k + 1 + m = k + (m + 1) by omega]; exact h4) (by rw [show k + 1 + m = k + (m + 1) by omega]; exact h5)
   split
   ·split
    ·exact .tail _ this
    ·exact this
   ·exact this

def openCount (listed : Array Bool) (n : Nat) : Nat := (List.range n).countP (fun i => !listed.getD i false)

theorem countP_drop {p q : Nat → Bool} {i : Nat} : ∀ (l : List Nat), l.Nodup → i ∈ l → p i = true → (∀ j, q j = (p j && !(decide (j = i)))) → l.countP q + 1 = l.countP p := by
 intro l
 induction l with
 | nil => intro _ h; cases h
 | cons x r ih =>
  intro hnd hi hp hq
  rw [List.nodup_cons] at hnd
  rw [List.countP_cons, List.countP_cons]
  by_cases e : x = i
  ·subst e
   have hr : r.countP q = r.countP p := by
    apply List.countP_congr
    intro j hj
    rw [hq]
    have : j ≠ x := fun e => hnd.1 (e ▸ hj)
    simp [this]
   rw [hr, hq]
   simp [hp]
  ·have hir : i ∈ r := by
    cases hi with
    | head => exact absurd rfl e
    | tail _ hm => exact hm
   have := ih hnd.2 hir hp hq
   rw [hq x]
   simp only [e, decide_false, Bool.not_false, Bool.and_true]
   omega

theorem getD_set {l : Array Bool} {i k : Nat} (hi : i < l.size) : (l.setIfInBounds i true).getD k false = (l.getD k false || decide (i = k)) := by
 simp only [Array.getD_eq_getD_getElem?, Array.getElem?_setIfInBounds]
 by_cases e : i = k
 ·subst e; simp [hi]
 ·simp [e]

theorem openCount_set {i : Nat} (hs : listed.size = n) (hi : i < n) (hnl : listed.getD i false = false) : openCount (listed.setIfInBounds i true) n + 1 = openCount listed n := by
 unfold openCount
 refine countP_drop (i := i) (List.range n) List.nodup_range (by simpa using hi) (by simp [hnl]) (fun j => ?_)
 rw [getD_set (by omega)]
 by_cases e : i = j
 ·subst e; simp
 ·have : j ≠ i := fun h => e h.symm
  simp [e, this]

theorem mem_ready {i : Nat} (hs : listed.size = n) (hn : n = ops.size) : i ∈ Region.ready .any ops listed ↔
  ∃ o, ops[i]? = some o ∧ listed.getD i false = false ∧ ∀ e ∈ o.after.toList, Region.binds .any e = true → listed.getD e.on false = true := by
 unfold Region.ready
 rw [List.mem_filter]
 simp only [List.mem_range, Bool.and_eq_true, Bool.not_eq_true']
 constructor
 ·rintro ⟨hi, h1, h2⟩
  obtain ⟨o, ho⟩ : ∃ o, ops[i]? = some o := ⟨ops[i]'hi, Array.getElem?_eq_getElem _⟩
  refine ⟨o, ho, ?_, ?_⟩
  ·have : i < listed.size := by omega
   simpa [this] using h1
  ·rw [ho] at h2
   simp only [Option.map_some, Option.getD_some] at h2
   intro e he hb
   rw [Array.all_eq_true_iff_forall_mem] at h2
   have := h2 e (by simpa using he)
   simpa [hb] using this
 ·rintro ⟨o, ho, h1, h2⟩
  have hi : i < ops.size := by
   rcases Nat.lt_or_ge i ops.size with hh | hh
   ·exact hh
   ·rw [Array.getElem?_eq_none hh] at ho; cases ho
  refine ⟨hi, ?_, ?_⟩
  ·have : i < listed.size := by omega
   simpa [this] using h1
  ·rw [ho]
   simp only [Option.map_some, Option.getD_some]
   rw [Array.all_eq_true_iff_forall_mem]
   intro e he
   cases hb : Region.binds .any e with
   | false => simp
   | true => simp [h2 e (by simpa using he) hb]

end

section
variable {ops : Array Oper} {pf : List Nat} {n T lt N : Nat}

theorem Down.set {listed : Array Bool} {i : Nat} {o : Oper} (h : Down ops listed) (hi : i < listed.size) (ho : ops[i]? = some o)
  (hr : ∀ e ∈ o.after.toList, Region.binds .any e = true → listed.getD e.on false = true) : Down ops (listed.setIfInBounds i true) := by
 intro j oj hj hl e he hb
 rw [getD_set hi] at hl ⊢
 by_cases ej : i = j
 ·subst ej
  rw [ho] at hj
  cases hj
  rw [hr e he hb]; rfl
 ·simp [ej] at hl
  rw [h j oj hj (by simpa using hl) e he hb]; rfl

theorem put_get {a : Act} {d t : Nat} {v : Value} (hd : d < a.tmps.size) : (a.put (some d) v).tmps[t]? = if d = t then some v else a.tmps[t]? := by
 simp only [Act.put, Array.getElem?_setIfInBounds, hd]
 by_cases e : d = t
 ·subst e; simp
 ·simp [e]

theorem PI.comes {listed : Array Bool} {D : Nat} {E : Env} {a : Act} {H : Heap} (h : PI P ops n T lt N listed D E a H) {i d : Nat} {o : Oper} {v : Value} (hin : i < n) (ho : ops[i]? = some o)
  (hD : Nat.testBit D i = true) (hd : o.dst = some d) (hdN : d < N) (hv : look E d = some v)
  (hr : ∀ e ∈ o.after.toList, Region.binds .any e = true → listed.getD e.on false = true) : PI P ops n T lt N (listed.setIfInBounds i true) D E (a.put o.dst v) H := by
 have hsz : i < listed.size := by rw [h.lsize]; exact hin
 have hda : d < a.tmps.size := by rw [h.size]; exact hdN
 refine ⟨by simp [h.lsize], ?_, ?_, h.dlt, h.down.set hsz ho hr, h.rows, ?_, ?_, ?_, ?_⟩
 ·intro k hk
  rw [getD_set hsz] at hk
  by_cases e : i = k
  ·subst e; exact hD
  ·simp only [e, decide_false, Bool.or_false] at hk; exact h.l2d k hk
 ·intro k hk hl
  rw [getD_set hsz, h.d2l k hk hl]; rfl
 ·rw [hd]; simp [Act.put, h.size]
 ·rw [hd]; exact h.defers
 ·intro t u hu
  rw [hd, put_get hda]
  by_cases e : d = t
  ·subst e
   rw [hv] at hu
   simp [← hu]
  ·simp only [e, if_false]
   rcases h.agree t u hu with g | ⟨k, o', hk, hD', hl, hd'⟩
   ·exact .inl g
   ·refine .inr ⟨k, o', hk, hD', ?_, hd'⟩
    rw [getD_set hsz]
    have : i ≠ k := by
     intro e2
     subst e2
     rw [ho] at hk
     cases hk
     rw [hd] at hd'
     cases hd'
     exact e rfl
    simp only [this, decide_false, Bool.or_false]
    exact hl
 ·intro k hk hl
  rw [getD_set hsz] at hl
  by_cases e : i = k
  ·subst e; simp at hl
  ·simp only [e, decide_false, Bool.or_false] at hl
   exact h.pend k hk hl

theorem PI.heavy {listed : Array Bool} {D : Nat} {E E1 E2 : Env} {a : Act} {H H' : Heap} (h : PI P ops n T lt N listed D E a H) (tab : TabOk ops n T) (lok : LightOk ops pf n T lt) {i : Nat} {o : Oper} {v : Value}
  (hin : i < n) (ho : ops[i]? = some o) (hD : Nat.testBit D i = false) (hlt : Nat.testBit lt i = false) (hE1 : ∀ t, look E1 t = look E t) (hput : putE N E1 o.dst v = some E2)
  (hr : ∀ e ∈ o.after.toList, Region.binds .any e = true → listed.getD e.on false = true)
  (hrow : ∀ k, Nat.testBit (before n T i) k = true → Nat.testBit D k = true)
  (hext : Keeps H H' (openLs P n T D i E 0 ops.toList)) :
  PI P ops n T lt N (listed.setIfInBounds i true) (Nat.lor D (Nat.pow 2 i)) E2 (a.put o.dst v) H' := by
 have hsz : i < listed.size := by rw [h.lsize]; exact hin
 have hrl := tab.listed h.down i o ho hr
 -- pending operations do not name the slot that is written
 have hno : ∀ d, o.dst = some d → ∀ k o', ops[k]? = some o' → Nat.testBit D k = true → listed.getD k false = false → memN d (namesOf ops o') = true → False := by
  intro d hd k o' hk hDk hl hm
  have hne : k ≠ i := by intro e; subst e; rw [hD] at hDk; cases hDk
  rcases lok.heavy i o d ho hlt hd k o' hk hne hm with g | g
  ·have := h.rows k hDk i g
   rw [this] at hD; cases hD
  ·have := hrl k g
   rw [this] at hl; cases hl
 have hpend : ∀ k, Nat.testBit D k = true → listed.getD k false = false → (∀ t o', ops[k]? = some o' → memN t (namesOf ops o') = true → look E2 t = look E t) := by
  intro k hDk hl t o' hk hm
  cases hd : o.dst with
  | none =>
   rw [hd] at hput
   simp only [putE, Option.some.injEq] at hput
   subst hput
   exact hE1 t
  | some d =>
   rw [hd] at hput
   obtain ⟨_, rfl⟩ := putE_some hput
   rw [look_cons]
   by_cases e : d = t
   ·subst e; exact (hno d hd k o' hk hDk hl hm).elim
   ·simp only [e, if_false]; exact hE1 t
 refine ⟨by simp [h.lsize], ?_, ?_, ?_, h.down.set hsz ho hr, ?_, ?_, ?_, ?_, ?_⟩
 ·intro k hk
  rw [getD_set hsz] at hk
  rw [bit_or_pow]
  by_cases e : i = k
  ·simp [e]
  ·simp only [e, decide_false, Bool.or_false] at hk ⊢; exact h.l2d k hk
 ·intro k hk hl
  rw [getD_set hsz]
  rw [bit_or_pow] at hk
  by_cases e : i = k
  ·simp [e]
  ·simp only [e, decide_false, Bool.or_false] at hk ⊢; exact h.d2l k hk hl
 ·intro k hk
  rw [bit_or_pow] at hk
  by_cases e : i = k
  ·subst e; exact hin
  ·simp only [e, decide_false, Bool.or_false] at hk; exact h.dlt k hk
 ·intro k hk m hm
  rw [bit_or_pow] at hk ⊢
  by_cases e : i = k
  ·subst e; rw [hrow m hm]; rfl
  ·simp only [e, decide_false, Bool.or_false] at hk; rw [h.rows k hk m hm]; rfl
 ·cases hd : o.dst <;> simp [Act.put, h.size]
 ·cases hd : o.dst <;> exact h.defers
 ·intro t u hu
  have old : look E t = some u → (a.tmps[t]? = some u ∨ ∃ k o', ops[k]? = some o' ∧ Nat.testBit (Nat.lor D (Nat.pow 2 i)) k = true ∧ (listed.setIfInBounds i true).getD k false = false ∧ o'.dst = some t) := by
   intro hu'
   rcases h.agree t u hu' with g | ⟨k, o', hk, hD', hl, hd'⟩
   ·exact .inl g
   ·have hne : i ≠ k := by intro e; subst e; rw [hD] at hD'; cases hD'
    refine .inr ⟨k, o', hk, by rw [bit_or_pow, hD']; rfl, ?_, hd'⟩
    rw [getD_set hsz]
    simp only [hne, decide_false, Bool.or_false]
    exact hl
  cases hd : o.dst with
  | none =>
   rw [hd] at hput
   simp only [putE, Option.some.injEq] at hput
   subst hput
   exact old (by rw [← hE1]; exact hu)
  | some d =>
   rw [hd] at hput
   obtain ⟨hdN, rfl⟩ := putE_some hput
   rw [put_get (by rw [h.size]; exact hdN)]
   rw [look_cons] at hu
   by_cases e : d = t
   ·subst e
    simp only [if_true] at hu ⊢
    exact .inl hu
   ·simp only [e, if_false] at hu ⊢
    exact old (by rw [← hE1]; exact hu)
 ·intro k hk hl
  rw [bit_or_pow] at hk
  rw [getD_set hsz] at hl
  by_cases e : i = k
  ·subst e; simp at hl
  ·simp only [e, decide_false, Bool.or_false] at hk hl
   obtain ⟨o', d', v', g1, g2, g3, g4, g5⟩ := h.pend k hk hl
   refine ⟨o', d', v', g1, g2, g3, ?_, g5.congr (fun t ht => hpend k hk hl t o' g1 (memN_names ht)) (fun t x b z h1 h2 h3 => hext (b, z) ?_)⟩
   ·rw [hpend k hk hl d' o' g1 (memN_dst g2)]; exact g4
   ·refine openLs_mem ops.toList 0 k o' t x b z (by simpa using g1) h1 h2 h3 (by rw [Nat.zero_add]; exact hk) ?_
    rw [Nat.zero_add]
    cases hx : Nat.testBit (before n T i) k with
    | false => rfl
    | true => rw [hrl k hx] at hl; cases hl

theorem draw_sound (tab : TabOk ops n T) (lok : LightOk ops pf n T lt) (hn : n = ops.size) {K : Env → Heap → Prop} {Q : Exit → Act → World → Prop} {w0 : World} {a0 : Act}
  (hQ : ∀ a' w' E', Agr N a' E' → Same w0 w' → Fr (dstsL ops.toList) a0 a' → K E' w'.heap → Q .normal a' w') :
  ∀ (fuel : Nat) (listed : Array Bool) (D : Nat) (E : Env) (a : Act) (w : World) (f : Nat), openCount listed n = fuel → PI P ops n T lt N listed D E a w.heap →
   (∀ k, Nat.testBit lt k = true → Eng.ready n T D k = true → Nat.testBit D k = true) → choiceH P N ops n T lt (drawH P N ops n T lt K f) w.heap K D E →
   Same w0 w → Fr (dstsL ops.toList) a0 a → wpAny P .any ops Q fuel listed a w := by
 intro fuel
 induction fuel with
 | zero =>
  intro listed D E a w f hcnt hp hcl hch hs hf
  have hall : ∀ i, i < n → listed.getD i false = true := by
   intro i hi
   unfold openCount at hcnt
   rw [List.countP_eq_zero] at hcnt
   have := hcnt i (by simpa using hi)
   simpa using this
  have hDall : ∀ i, i < n → Nat.testBit D i = true := fun i hi => hp.l2d i (hall i hi)
  refine ⟨?_, ?_⟩
  ·apply List.eq_nil_iff_forall_not_mem.2
   intro i hi
   obtain ⟨o, ho, hl, _⟩ := (mem_ready hp.lsize hn).1 hi
   have hin : i < n := by
    rw [hn]
    rcases Nat.lt_or_ge i ops.size with hh | hh
    ·exact hh
    ·rw [Array.getElem?_eq_none hh] at ho; cases ho
   rw [hall i hin] at hl
   cases hl
  ·have hagr : Agr N a E := ⟨hp.size, hp.defers, fun t u hu => by
    rcases hp.agree t u hu with g | ⟨k, o', _, hD', hl, _⟩
    ·exact g
    ·rw [hall k (hp.dlt k hD')] at hl; cases hl⟩
   have hDe : Nat.beq D (Nat.sub (Nat.pow 2 n) 1) = true := by
    have : D = 2 ^ n - 1 := by
     apply Nat.eq_of_testBit_eq
     intro i
     rw [Nat.testBit_two_pow_sub_one]
     by_cases e : i < n
     ·simp [e, hDall i e]
     ·cases hx : Nat.testBit D i with
      | false => simp [e]
      | true => exact absurd (hp.dlt i hx) e
    show Nat.beq D (2 ^ n - 1) = true
    rw [this]
    exact Nat.beq_refl _
   have hrh : readyHeavy n T lt D 0 ops.toList = [] := by
    apply List.eq_nil_iff_forall_not_mem.2
    have key : ∀ (l : List Oper) (i k : Nat), k ∈ readyHeavy n T lt D i l → Nat.testBit D k = false ∧ k < i + l.length := by
     intro l
     induction l with
     | nil => intro i k h; cases h
     | cons x r ih =>
      intro i k h
      simp only [readyHeavy] at h
      split at h
      ·rename_i h1 _ _
       cases h with
       | head => exact ⟨h1, by simp⟩
       | tail _ hm => obtain ⟨g1, g2⟩ := ih _ k hm; exact ⟨g1, by simp only [List.length_cons]; omega⟩
      ·obtain ⟨g1, g2⟩ := ih _ k h; exact ⟨g1, by simp only [List.length_cons]; omega⟩
    intro k hk
    obtain ⟨g1, g2⟩ := key _ 0 k hk
    rw [hDall k (by rw [hn]; simpa using g2)] at g1
    cases g1
   unfold choiceH at hch
   rw [hrh] at hch
   simp only [hDe] at hch
   exact hQ a w E hagr hs hf hch
 | succ fuel ih =>
  intro listed D E a w f hcnt hp hcl hch hs hf
  refine ⟨?_, ?_⟩
  ·intro hnil
   exfalso
   -- the least operation that is open may come up
   have hex : ∃ i, i < n ∧ listed.getD i false = false := by
    apply Classical.byContradiction
    intro hno
    have : openCount listed n = 0 := by
     unfold openCount
     rw [List.countP_eq_zero]
     intro i hi
     have hi' : i < n := by simpa using hi
     cases hx : listed.getD i false with
     | true => simp
     | false => exact (hno ⟨i, hi', hx⟩).elim
    omega
   have key : ∀ i, i < n → listed.getD i false = false → False := by
    intro i
    induction i using Nat.strongRecOn with
    | _ i ihi =>
     intro hi hl
     have hi' : i < ops.size := by omega
     have : i ∈ Region.ready .any ops listed := (mem_ready hp.lsize hn).2 ⟨ops[i]'hi', Array.getElem?_eq_getElem _, hl, fun e he hb => by
      have hlt := tab.back i _ (Array.getElem?_eq_getElem hi') e he hb
      cases hx : listed.getD e.on false with
      | true => rfl
      | false => exact (ihi e.on hlt (by omega) hx).elim⟩
     rw [hnil] at this
     cases this
   obtain ⟨i, h1, h2⟩ := hex
   exact key i h1 h2
  ·intro i hi
   obtain ⟨o, ho, hl, hr⟩ := (mem_ready hp.lsize hn).1 hi
   have hin : i < n := by
    rw [hn]
    rcases Nat.lt_or_ge i ops.size with hh | hh
    ·exact hh
    ·rw [Array.getElem?_eq_none hh] at ho; cases ho
   have hcnt' : openCount (listed.setIfInBounds i true) n = fuel := by
    have := openCount_set hp.lsize hin hl
    omega
   have hrl := tab.listed hp.down i o ho hr
   have hrow : ∀ k, Nat.testBit (before n T i) k = true → Nat.testBit D k = true := fun k hk => hp.l2d k (hrl k hk)
   have hreads := hp.reads tab lok ho hr
   have hfr : ∀ v, Fr (dstsL ops.toList) a0 (a.put o.dst v) := by
    intro v
    refine hf.trans ?_
    have hmem : ∀ (l : List Oper) (m : Nat), l[m]? = some o → ∀ t, memN t (match o.dst with | some d => [d] | none => []) = true → memN t (dstsL l) = true := by
     intro l
     induction l with
     | nil => intro m hm; simp at hm
     | cons x r ihl =>
      intro m hm t ht
      rw [dstsL_cons]
      cases m with
      | zero => simp at hm; subst hm; exact memN_left ht
      | succ m => exact memN_right (ihl m (by simpa using hm) t ht)
    intro t ht
    refine put_fr a o.dst v t ?_
    cases hx : memN t (match o.dst with | some d => [d] | none => []) with
    | false => rfl
    | true => rw [hmem ops.toList i (by simpa using ho) t hx] at ht; cases ht
   unfold wpOp
   simp only [ho]
   cases hD : Nat.testBit D i with
   | true =>
    obtain ⟨o', d, v, g1, g2, g3, g4, g5⟩ := hp.pend i hD hl
    rw [ho] at g1
    cases g1
    have hy := g5 a w (wpAny P .any ops Q fuel (listed.setIfInBounds i true)) Q hreads (.refl _ _ _) (fun w' hw' hs' => ?_)
    ·by_cases hw : Region.wanted o (yielded ops a.tmps) = true
     ·rw [if_pos hw] at hy ⊢
      exact .inl hy
     ·rw [if_neg hw] at hy ⊢
      exact hy
    ·have hp' := hp.comes hin ho hD g2 g3 g4 hr
     rw [← hw'] at hp' hch
     exact ih _ D E _ w' f hcnt' hp' hcl hch (hs.trans hs') (hfr v)
   | false =>
    have hlt : Nat.testBit lt i = false := by
     cases hx : Nat.testBit lt i with
     | false => rfl
     | true => rw [hcl i hx (ready_iff.2 hrow)] at hD; cases hD
    have hmem : i ∈ readyHeavy n T lt D 0 ops.toList := mem_readyHeavy ops.toList 0 i (Nat.zero_le _) (by simp; omega) hD hlt (ready_iff.2 hrow)
    unfold choiceH at hch
    split at hch
    ·rename_i hnil
     rw [hnil] at hmem
     cases hmem
    ·have hFi := conjL_mem _ hch i hmem
     simp only [ho] at hFi
     -- once the operation has left its value
     have next : ∀ (E1 E2 : Env) (v : Value) (w' : World), (∀ t, look E1 t = look E t) → putE N E1 o.dst v = some E2 → Same w w' → Keeps w.heap w'.heap (openLs P n T D i E 0 ops.toList) →
       drawH P N ops n T lt K f (Nat.lor D (Nat.pow 2 i)) E2 w'.heap → wpAny P .any ops Q fuel (listed.setIfInBounds i true) (a.put o.dst v) w' := by
      intro E1 E2 v w' hE1 hput hs' hext hdr
      have hp' := hp.heavy tab lok hin ho hD hlt hE1 hput hr hrow hext
      cases f with
      | zero => exact hdr.elim
      | succ f =>
       obtain ⟨D', E', hp2, hch2, hcl2⟩ := eager_sound tab lok hn ops.toList 0 _ _ (by simp) hp' (fun k hk => by omega) hdr
       exact ih _ D' E' _ w' f hcnt' hp2 hcl2 hch2 (hs.trans hs') (hfr v)
     obtain ⟨E1, hE1, hcase⟩ := guardK_cases hFi
     rcases hcase with ⟨hgo, hwant⟩ | ⟨hskip, hwant⟩
     ·rw [if_pos (hwant a hreads)]
      split at hgo
      ·rename_i hk hsel
       have hre : Reads ops o E1 a := fun t u ht hu => hreads t u ht (by rw [← hE1]; exact hu)
       refine .inl (stepH_sound (evE_const E1) (hre.exec hk hsel) rfl hgo ?_)
       intro v w' hs' hK
       split at hK
       ·rename_i E2 hput
        unfold keepIf at hK
        rw [openLs_congr hE1] at hK
        split at hK
        ·rename_i hlo
         exact next E1 E2 v w' hE1 hput hs' (by rw [hlo]; intro p hp; cases hp) hK
        ·rename_i hlo
         exact next E1 E2 v w' hE1 hput hs' hK.1 hK.2
       ·exact hK.elim
      ·exact hgo.elim
     ·rw [if_neg (by rw [hwant a hreads]; simp)]
      split at hskip
      ·rename_i E2 hput
       exact next E1 E2 undef w hE1 hput (.refl _) (.refl _ _) hskip
      ·exact hskip.elim

theorem drawR_sound {E : Env} {H : Heap} {K : Env → Heap → Prop} {a : Act} {w w0 : World} {id : Nat} {Q : Exit → Act → World → Prop} (hm : P.follows .mixedOrders = true) (ha : Agr N a E) (hw : w.heap = H) (hs : Same w0 w)
  (hQ : ∀ a' w' E', Agr N a' E' → Same w0 w' → Fr (dstsL ops.toList) a a' → K E' w'.heap → Q .normal a' w') (h : drawR P N pf ops E H K) : (Code.region id ops true).wp P Q a w := by
 unfold drawR at h
 split at h
 ·rename_i hok
  simp only [Bool.and_eq_true] at hok
  have tab := tabOk_spec hok.1
  have lok := lightOk_spec hok.2
  generalize tabBits ops.size 0 ops.toList 0 = T at *
  generalize lightBits ops pf ops.size T 0 ops.toList = lt at *
  refine wp_region_any hm ?_
  have hz : ∀ i, (Array.replicate ops.size false).getD i false = false := by
   intro i
   simp only [Array.getD_eq_getD_getElem?, Array.getElem?_replicate]
   split <;> rfl
  have hp : PI P ops ops.size T lt N (Array.replicate ops.size false) 0 E a H := by
   refine ⟨by simp, ?_, ?_, ?_, ?_, ?_, ha.size, ha.defers, fun t u hu => .inl (ha.get t u hu), ?_⟩
   ·intro i hi; rw [hz] at hi; cases hi
   ·intro i hi; simp at hi
   ·intro i hi; simp at hi
   ·intro i o _ hi; rw [hz] at hi; cases hi
   ·intro i hi; simp at hi
   ·intro k hk; simp at hk
  obtain ⟨D', E', hp2, hch2, hcl2⟩ := eager_sound tab lok rfl ops.toList 0 _ _ (by simp) hp (fun k hk => by omega) h
  subst hw
  refine draw_sound tab lok rfl hQ _ _ D' E' _ { w with drawn := w.drawn + 1 } ops.size ?_ hp2 hcl2 hch2 ⟨hs.tape, hs.os, hs.output⟩ (Fr.refl _ _)
  unfold openCount
  rw [List.countP_eq_length.2]
  ·simp
  ·intro i _
   rw [hz]; rfl
 ·exact h.elim

end

/-! ### typed rows -/

theorem unV_elim {z v : Value} {K : ShT z → Prop} (h : unV z v K) : ∃ x : ShT z, v = mkV z x ∧ K x := by
 rcases z with _ | _ | _ | _ | _ | (_ | _) | _ | _ | _ | _ | _ | _ | _ | _ | _ <;> simp only [unV] at h <;> first
  | exact ⟨v, rfl, h⟩
  | (cases v <;> simp only at h <;> first
    | exact h.elim
    | exact ⟨_, rfl, h⟩
    | (split at h
       ·rename_i hk; subst hk; exact ⟨_, rfl, h⟩
       ·exact h.elim))
  | (split at h
     ·exact ⟨_, rfl, h⟩
     ·exact h.elim)

theorem appV_all {α : Type} : ∀ (zs : List Value) {f : CurL zs α} {vs : List Value} {k : α → Prop} {G : List Value → Prop}, appV zs f vs k → allV zs G → G vs := by
 intro zs
 induction zs with
 | nil =>
  intro f vs k G h hg
  cases vs with
  | nil => exact hg
  | cons v vs => exact h.elim
 | cons z zs ih =>
  intro f vs k G h hg
  cases vs with
  | nil => exact h.elim
  | cons v vs =>
   obtain ⟨x, rfl, hx⟩ := unV_elim h
   exact ih (G := fun vs => G (mkV z x :: vs)) hx (hg x)

theorem regroup_flat : ∀ (zs vs : List Value), fitF zs vs = true → regroup zs (flatV vs) = vs := by
 intro zs
 induction zs with
 | nil =>
  intro vs h
  cases vs with
  | nil => rfl
  | cons v vs => simp [fitF] at h
 | cons z zs ih =>
  intro vs h
  cases vs with
  | nil => cases z <;> simp [fitF] at h
  | cons v vs =>
   have scalar : oneC v = true → fitF zs vs = true → flatV (v :: vs) = v :: flatV vs := by
    intro h1 _
    cases v <;> simp_all [oneC, flatV, Value.cells]
   cases z with
   | agg cs =>
    cases v <;> simp only [fitF] at h <;> try exact Bool.noConfusion h
    rename_i ds
    split at h
    ·rename_i hs
     have hs' := Nat.eq_of_beq_eq_true hs
     have : flatV (Value.agg ds :: vs) = ds.toList ++ flatV vs := by simp [flatV, Value.cells]
     rw [this]
     simp only [regroup]
     rw [hs', ← Array.length_toList, List.take_left, List.drop_left, ih vs h]
    ·cases h
   | _ =>
    simp only [fitF] at h
    split at h
    ·rename_i h1
     rw [scalar h1 h]
     simp only [regroup]
     rw [ih vs h]
    ·cases h

theorem valsE_get {N : Nat} {a : Act} {E : Env} (h : Agr N a E) : ∀ (ts : List Nat) {vs : List Value}, valsE E ts = some vs → ∀ t v, look (bindE ts vs) t = some v → a.tmps[t]? = some v := by
 intro ts
 induction ts with
 | nil => intro vs _ t v hv; simp [bindE, look] at hv
 | cons u ts ih =>
  intro vs hvs t v hv
  simp only [valsE] at hvs
  split at hvs
  ·rename_i x xs hx hxs
   simp only [Option.some.injEq] at hvs
   subst hvs
   simp only [bindE] at hv
   rw [look_cons] at hv
   by_cases e : u = t
   ·subst e; simp only [if_true] at hv; cases hv; exact h.get _ _ hx
   ·simp only [e, if_false] at hv; exact ih hxs t v hv
  ·cases hvs

theorem keepE_get {E : Env} : ∀ (ts : List Nat) {E' : Env}, keepE E ts = some E' → ∀ t v, look E' t = some v → memN t ts = true ∧ look E t = some v := by
 intro ts
 induction ts with
 | nil => intro E' h t v hv; simp only [keepE, Option.some.injEq] at h; subst h; simp [look] at hv
 | cons u ts ih =>
  intro E' h t v hv
  simp only [keepE] at h
  split at h
  ·rename_i x xs hx hxs
   simp only [Option.some.injEq] at h
   subst h
   rw [look_cons] at hv
   by_cases e : u = t
   ·subst e
    simp only [if_true] at hv
    cases hv
    exact ⟨by simp [memN, Nat.beq_refl], hx⟩
   ·simp only [e, if_false] at hv
    obtain ⟨g1, g2⟩ := ih hxs t v hv
    refine ⟨?_, g2⟩
    simp only [memN]
    split
    ·rfl
    ·exact g1
  ·cases h

theorem apartN_mem : ∀ (l F : List Nat), apartN l F = true → ∀ t, memN t l = true → memN t F = false := by
 intro l
 induction l with
 | nil => intro F _ t h; simp [memN] at h
 | cons u l ih =>
  intro F h t ht
  simp only [apartN] at h
  split at h
  ·cases h
  ·rename_i hu
   simp only [memN] at ht
   split at ht
   ·rename_i e
    have := Nat.eq_of_beq_eq_true e
    subst this
    exact hu
   ·exact ih F h t ht

theorem look_append (A B : Env) (t : Nat) : look (A ++ B) t = match look A t with | some v => some v | none => look B t := by
 induction A with
 | nil => simp [look]
 | cons x A ih =>
  obtain ⟨i, v⟩ := x
  rw [List.cons_append, look_cons, look_cons]
  by_cases e : i = t
  ·simp [e]
  ·simp only [e, if_false, ih]

theorem Agr.meet {N : Nat} {a0 a : Act} {E0 E Ek : Env} {F mods keeps : List Nat} {vs : List Value} (h0 : Agr N a0 E0) (h : Agr N a E) (hf : Fr F a0 a)
  (hk : keepE E0 keeps = some Ek) (hap : apartN keeps F = true) (hv : valsE E mods = some vs) : Agr N a (bindE mods vs ++ Ek) := by
 refine ⟨h.size, h.defers, fun t v ht => ?_⟩
 rw [look_append] at ht
 split at ht
 ·rename_i u hu
  cases ht
  exact valsE_get h mods hv t _ hu
 ·obtain ⟨g1, g2⟩ := keepE_get keeps hk t v ht
  rw [hf t (apartN_mem keeps F hap t g1)]
  exact h0.get t v g2

def unO : (z : Value) → Value → Option (ShT z)
 | .int k _, v => match v with | .int k' n => if k = k' then some n else none | _ => none
 | .bool _, v => match v with | .bool b => some b | _ => none
 | .pointer none, v => match v with | .pointer p => some p | _ => none
 | .pointer (some _), v => match v with | .pointer (some a) => some a | _ => none
 | .slice _ _ _, v => match v with | .slice p n c => some (Sl.mk p n c) | _ => none
 | .string _, v => match v with | .string s => some s | _ => none
 | .float _ _, v => some v
 | .complex _ _ _, v => some v
 | .map _, v => some v
 | .chan _, v => some v
 | .func _ _ _, v => some v
 | .nilFunc, v => some v
 | .iface _ _, v => some v
 | .nilIface, v => some v
 | .agg _, v => some v
 | .tuple _, v => some v

def appO {α : Type} : (zs : List Value) → CurL zs α → List Value → Option α
 | [], f, [] => some f
 | z :: zs, f, v :: vs => match unO z v with
  | some x => appO zs (f x) vs
  | none => none
 | _, _, _ => none

theorem unV_unO {z v : Value} {K : ShT z → Prop} (h : unV z v K) : ∃ x : ShT z, unO z v = some x ∧ K x := by
 rcases z with _ | _ | _ | _ | _ | (_ | _) | _ | _ | _ | _ | _ | _ | _ | _ | _ <;> simp only [unV] at h <;> first
  | exact ⟨v, rfl, h⟩
  | (cases v <;> simp only at h <;> first
    | exact h.elim
    | exact ⟨_, rfl, h⟩
    | (split at h
       ·rename_i hk; subst hk; exact ⟨_, by simp [unO], h⟩
       ·exact h.elim))
  | (split at h
     ·exact ⟨_, rfl, h⟩
     ·exact h.elim)

theorem appV_appO {α : Type} : ∀ (zs : List Value) {f : CurL zs α} {vs : List Value} {k : α → Prop}, appV zs f vs k → ∃ x, appO zs f vs = some x ∧ k x := by
 intro zs
 induction zs with
 | nil =>
  intro f vs k h
  cases vs with
  | nil => exact ⟨f, rfl, h⟩
  | cons v vs => exact h.elim
 | cons z zs ih =>
  intro f vs k h
  cases vs with
  | nil => exact h.elim
  | cons v vs =>
   obtain ⟨x, hx, hr⟩ := unV_unO h
   obtain ⟨y, hy, hk⟩ := ih hr
   exact ⟨y, by simp only [appO, hx, hy], hk⟩

theorem valsE_map {N : Nat} {a : Act} {E : Env} (h : Agr N a E) : ∀ (ts : List Nat) {vs : List Value}, valsE E ts = some vs → vs = ts.map (fun t => a.tmps.getD t undef) := by
 intro ts
 induction ts with
 | nil => intro vs hv; simp only [valsE, Option.some.injEq] at hv; subst hv; rfl
 | cons u ts ih =>
  intro vs hv
  simp only [valsE] at hv
  split at hv
  ·rename_i x xs hx hxs
   simp only [Option.some.injEq] at hv
   subst hv
   have := h.get u x hx
   rw [ih hxs]
   simp [this]
  ·cases hv

theorem wpS_sound {N : Nat} {zt : List (Nat × Value)} {jn lp : Notes} {pf : List Nat} : ∀ (c : Code) {E : Env} {H : Heap} {K : KK} {a : Act} {w w0 : World},
  Agr N a E → w.heap = H → Same w0 w → wpS P N zt jn lp pf c E H K → c.wp P (post N w0 (dsts c) a K) a w := by
 intro c
 induction c with
 | skip => intro E H K a w w0 ha hw hs h; subst hw; exact wp_skip ⟨E, ha, hs, Fr.refl _ _, h⟩
 | region id ops draw =>
  intro E H K a w w0 ha hw hs h
  simp only [wpS] at h
  cases draw with
  | false => exact wp_region_list (opsH_sound ops.toList ha hw hs h (fun a' w' E' g1 g2 g3 g4 => ⟨E', g1, g2, g3, g4⟩))
  | true =>
   simp only at h
   split at h
   ·rename_i hm
    exact drawR_sound hm ha hw hs (fun a' w' E' g1 g2 g3 g4 => ⟨E', g1, g2, g3, g4⟩) h
   ·exact h.elim
 | seq x y ihx ihy =>
  intro E H K a w w0 ha hw hs h
  simp only [wpS] at h
  refine wp_seq ?_
  split at h
  ·refine wp_mono (ihx ha hw hs h) ?_
   rintro e a1 w1 ⟨E1, ha1, hs1, hf1, hK1⟩
   cases e with
   | normal =>
    refine wp_mono (ihy ha1 rfl hs1 hK1) ?_
    rintro e2 a2 w2 ⟨E2, ha2, hs2, hf2, hK2⟩
    exact ⟨E2, ha2, hs2, (Fr.left hf1).trans (Fr.right hf2), hK2⟩
   | _ => exact ⟨E1, ha1, hs1, Fr.left hf1, hK1⟩
  ·rename_i mods keeps hnote
   split at h
   ·rename_i Ek zs hk hap hpl hz
    obtain ⟨J, hfirst, hsecond⟩ := h
    refine wp_mono (ihx ha hw hs hfirst) ?_
    rintro e a1 w1 ⟨E1, ha1, hs1, hf1, hK1⟩
    cases e with
    | normal =>
     simp only at hK1
     split at hK1
     ·rename_i vs hvs
      split at hK1
      ·rename_i hfit
       have hsec := appV_all _ hK1 hsecond w1.heap hK1
       rw [regroup_flat zs vs hfit] at hsec
       refine wp_mono (ihy (Agr.meet ha ha1 hf1 hk hap hvs) rfl hs1 hsec) ?_
       rintro e2 a2 w2 ⟨E2, ha2, hs2, hf2, hK2⟩
       exact ⟨E2, ha2, hs2, (Fr.left hf1).trans (Fr.right hf2), hK2⟩
      ·exact hK1.elim
     ·exact hK1.elim
    | _ => exact ⟨E1, ha1, hs1, Fr.left hf1, hK1⟩
   ·exact h.elim
 | cond c x y ihx ihy =>
  intro E H K a w w0 ha hw hs h
  simp only [wpS] at h
  split at h
  ·rename_i t
   split at h
   ·rename_i b hb
    have hev : a.eval (.tmp t) = .bool b := by simp [Act.eval, ha.get t _ hb]
    rcases iteB_elim h with ⟨rfl, h⟩ | ⟨rfl, h⟩
    ·refine wp_cond_true hev (wp_mono (ihx (ha.know hb) hw hs h) ?_)
     rintro e a1 w1 ⟨E1, ha1, hs1, hf1, hK1⟩
     exact ⟨E1, ha1, hs1, Fr.left hf1, hK1⟩
    ·refine wp_cond_false hev (wp_mono (ihy (ha.know hb) hw hs h) ?_)
     rintro e a1 w1 ⟨E1, ha1, hs1, hf1, hK1⟩
     exact ⟨E1, ha1, hs1, Fr.right hf1, hK1⟩
   ·exact h.elim
  ·rename_i b
   split at h
   ·refine wp_cond_true rfl (wp_mono (ihx ha hw hs h) ?_)
    rintro e a1 w1 ⟨E1, ha1, hs1, hf1, hK1⟩
    exact ⟨E1, ha1, hs1, Fr.left hf1, hK1⟩
   ·refine wp_cond_false rfl (wp_mono (ihy ha hw hs h) ?_)
    rintro e a1 w1 ⟨E1, ha1, hs1, hf1, hK1⟩
    exact ⟨E1, ha1, hs1, Fr.right hf1, hK1⟩
  ·exact h.elim
 | block id x ih =>
  intro E H K a w w0 ha hw hs h
  simp only [wpS] at h
  refine wp_block (wp_mono (ih ha hw hs h) ?_)
  rintro e a1 w1 ⟨E1, ha1, hs1, hf1, hK1⟩
  cases e with
  | exit i =>
   simp only at hK1
   simp only [Exit.inBlock]
   split at hK1
   ·rename_i hi
    have := Nat.eq_of_beq_eq_true hi
    rw [if_pos this]
    exact ⟨E1, ha1, hs1, hf1, hK1⟩
   ·rename_i hi
    have : i ≠ id := by intro e; subst e; rw [Nat.beq_refl] at hi; cases hi
    rw [if_neg this]
    exact ⟨E1, ha1, hs1, hf1, hK1⟩
  | _ => exact ⟨E1, ha1, hs1, hf1, hK1⟩
 | loop x ih =>
  intro E H K a w w0 ha hw hs h
  simp only [wpS] at h
  split at h
  ·exact h.elim
  ·rename_i mods keeps hnote
   split at h
   ·rename_i Ek start zs hk hap hpl hst hz
    obtain ⟨I, μ, hinit, hround⟩ := h
    split at hinit
    ·rename_i hfit0
     refine wp_loop (fun a' w' => Same w0 w' ∧ Fr (dsts x) a a' ∧ ∃ E' vs, Agr N a' E' ∧ valsE E' mods = some vs ∧ fitF zs vs = true ∧ appV (flatV zs) I (flatV vs) (fun j => j w'.heap))
      (fun a' w' => match appO (flatV zs) μ (flatV (mods.map (fun t => a'.tmps.getD t undef))) with
       | some m => m w'.heap
       | none => 0)
      ⟨hs, Fr.refl _ _, E, start, ha, hst, hfit0, by rw [hw]; exact hinit⟩ ?_
     rintro a1 w1 ⟨hs1, hf1, E1, vs, ha1, hvs, hfit, hI⟩
     have hr := appV_all _ hI hround w1.heap hI
     rw [regroup_flat zs vs hfit] at hr
     refine wp_mono (ih (Agr.meet ha ha1 hf1 hk hap hvs) rfl hs1 hr) ?_
     rintro e a2 w2 ⟨E2, ha2, hs2, hf2, hK2⟩
     cases e with
     | normal =>
      simp only at hK2
      split at hK2
      ·rename_i vs2 hvs2
       split at hK2
       ·rename_i hfit2
        obtain ⟨hI2, hmu⟩ := hK2
        refine ⟨⟨hs2, hf1.trans hf2, E2, vs2, ha2, hvs2, hfit2, hI2⟩, ?_⟩
        obtain ⟨m2, hm2, hmu2⟩ := appV_appO _ hmu
        obtain ⟨m1, hm1, hlt⟩ := appV_appO _ hmu2
        rw [← valsE_map ha1 mods hvs, ← valsE_map ha2 mods hvs2, hm1, hm2]
        exact hlt
       ·exact hK2.elim
      ·exact hK2.elim
     | _ => exact ⟨E2, ha2, hs2, hf1.trans hf2, hK2⟩
    ·exact hinit.elim
   ·exact h.elim
 | exit id => intro E H K a w w0 ha hw hs h; subst hw; exact wp_exit ⟨E, ha, hs, Fr.refl _ _, h⟩
 | ret => intro E H K a w w0 ha hw hs h; subst hw; exact wp_ret ⟨E, ha, hs, Fr.refl _ _, h⟩
 | _ => intro E H K a w w0 ha hw hs h; exact h.elim

theorem resK_sound {N : Nat} {a : Act} {E : Env} {w : World} (ha : Agr N a E) : ∀ (rs : List ResultVar) {K : List Value → Prop}, resK P E w.heap rs K →
  ∃ vs, K vs ∧ (rs.mapM (fun
   | .tmp t => pure (a.tmps.getD t undef)
   | .cell x t => do loadVar t (← asAddr (a.tmps.getD x undef)) : ResultVar → Sem Value)).run P w = .ok vs w := by
 intro rs
 induction rs with
 | nil => intro K h; exact ⟨[], h, by simp⟩
 | cons r rs ih =>
  intro K h
  cases r with
  | tmp t =>
   simp only [resK] at h
   split at h
   ·rename_i v hv
    obtain ⟨vs, hK, hr⟩ := ih h
    refine ⟨v :: vs, hK, ?_⟩
    have := ha.get t v hv
    simp only [List.mapM_cons, Sem.run_bind, Sem.run_pure, Result.andThen_ok, hr]
    simp [this]
   ·exact h.elim
  | cell x t =>
   simp only [resK] at h
   split at h
   ·rename_i ad hv
    obtain ⟨v, hK1, hr1⟩ := ldV_sound h
    obtain ⟨vs, hK, hr⟩ := ih hK1
    refine ⟨v :: vs, hK, ?_⟩
    have := ha.get x _ hv
    have hr2 := hr1 w (fun n _ => .refl _ _ _)
    have e1 : Sem.run P (do let y ← asAddr (a.tmps.getD x undef); loadVar t y) w = .ok v w := by simp [this, asAddr, hr2]
    simp only [List.mapM_cons]
    rw [Sem.run_bind, e1]
    simp only [Result.andThen_ok, Sem.run_bind, hr, Sem.run_pure]
   ·exact h.elim

theorem run_results {fn : Func} {N : Nat} {a : Act} {E : Env} {w : World} {R : Value → Heap → Prop} (ha : Agr N a E)
  (h : resK P E w.heap fn.results.toList (fun vs => R (tupV vs) w.heap)) : ∃ v, (results fn a.tmps).run P w = .ok v w ∧ R v w.heap := by
 obtain ⟨vs, hK, hr⟩ := resK_sound ha _ h
 refine ⟨tupV vs, ?_, hK⟩
 have e : results fn a.tmps = (do
   let vs ← (fn.results.toList.mapM (fun
    | .tmp t => pure (a.tmps.getD t undef)
    | .cell x t => do loadVar t (← asAddr (a.tmps.getD x undef)) : ResultVar → Sem Value))
   pure (tupV vs)) := by
  unfold results
  rw [Array.mapM_eq_mapM_toList]
  simp only [bind_map_left]
  congr 1
  funext vs
  congr 1
  match vs with
  | [] => rfl
  | [v] => rfl
  | v :: u :: r => simp [tupV]
 rw [e]
 simp only [Sem.run_bind, hr, Result.andThen_ok, Sem.run_pure]

theorem argE_get : ∀ (vs : List Value) (i t : Nat) (v : Value), look (argE i vs) t = some v → i ≤ t ∧ vs[t - i]? = some v := by
 intro vs
 induction vs with
 | nil => intro i t v h; simp [argE, look] at h
 | cons x vs ih =>
  intro i t v h
  simp only [argE] at h
  rw [look_cons] at h
  by_cases e : i = t
  ·subst e; simp only [if_true] at h; cases h; simp
  ·simp only [e, if_false] at h
   obtain ⟨g1, g2⟩ := ih (i + 1) t v h
   refine ⟨by omega, ?_⟩
   have : t - i = (t - (i + 1)) + 1 := by omega
   rw [this]
   simpa using g2

theorem wpF_sound {f : FuncId} {fn : Func} {zt : List (Nat × Value)} {jn lp : Notes} {pf : List Nat} {args : List Value} {H : Heap} {R : Value → Heap → Prop}
  (hf : P.funcs[f]? = some fn) (h : wpF P fn zt jn lp pf args H R) : CallsH P f args.toArray H R := by
 intro w hw
 unfold wpF at h
 split at h
 ·rename_i c hb hl
  have hl' : args.length ≤ fn.ntmps := Nat.le_of_ble_eq_true hl
  refine calls_of_wp hf hb ?_
  have ha : Agr fn.ntmps { tmps := args.toArray ++ Array.replicate (fn.ntmps - args.toArray.size) undef, defers := [] } (argE 0 args) := by
   refine ⟨by simp; omega, rfl, fun t v ht => ?_⟩
   obtain ⟨_, g⟩ := argE_get args 0 t v ht
   have hlt : t < args.length := by
    rcases Nat.lt_or_ge t args.length with hh | hh
    ·exact hh
    ·rw [Nat.sub_zero, List.getElem?_eq_none hh] at g; cases g
   simp only [Nat.sub_zero] at g
   simp [Array.getElem?_append, hlt]
   rw [List.getElem?_eq_getElem hlt] at g
   exact Option.some.inj g
  refine wp_mono (wpS_sound c (w0 := w) ha hw (.refl w) h) ?_
  rintro e a1 w1 ⟨E1, ha1, hs1, hf1, hK1⟩
  cases e with
  | normal =>
   obtain ⟨v, hr, hR⟩ := run_results ha1 hK1
   exact ⟨ha1.defers, v, hr, v, rfl, hs1, hR⟩
  | ret =>
   obtain ⟨v, hr, hR⟩ := run_results ha1 hK1
   exact ⟨ha1.defers, v, hr, v, rfl, hs1, hR⟩
  | _ => exact hK1.elim
 ·exact h.elim

theorem CallsH.mono {f : FuncId} {args : Array Value} {H : Heap} {R R' : Value → Heap → Prop} (h : CallsH P f args H R) (hr : ∀ v H', R v H' → R' v H') : CallsH P f args H R' :=
 fun w hw => (h w hw).mono fun _ _ ⟨v, he, hs, hR⟩ => ⟨v, he, hs, hr _ _ hR⟩

end

theorem wpF_ok {P : Program} {f : FuncId} {fn : Func} {zt : List (Nat × Value)} {jn lp : Notes} {pf : List Nat} {args : List Value} {H : Heap} {R : Value → Heap → Prop} {F : Prop}
  (hf : P.funcs[f]? = some fn) (he : wpF P fn zt jn lp pf args H R = F) (h : F) : CallsH P f args.toArray H R := wpF_sound hf (he ▸ h)

end Go.Eng
