/-
  Adding a card: what the answer is; the contract of the program's Add.
-/
import Derived.Test.YtnhhncjflnlfaaaA2
namespace Go.Proofs.Ytnhhncjflnlfaaa
open Go.Eng

theorem rkFn : RK Try.prog t_sl_api_Function t_api_Function (.agg #[.int .i64 0, .int .i64 0, .int .i64 0, .int .i64 0, .bool false, .bool false, .bool false, .int .i64 0, .int .i64 0, .int .i64 0, .slice none 0 0]) 11 88 encF :=
  ⟨by kernel_rfl, by kernel_rfl, rfl, by omega, by omega, encF_len, encF_one⟩

def zFn : Fn := ⟨0, 0, 0, 0, false, false, false, 0, 0, 0, []⟩
/-- Validity of a list of functions, wherever its registers lie. -/
def ValidL (L : List Fn) : Prop := ValidT (L.map (fun f => (f, ⟨none, 0, 0⟩)))
theorem fnAt_map (L : List Fn) (i : Nat) : fnAt (L.map (fun f => (f, (⟨none, 0, 0⟩ : Sl)))) i = L.getD i zFn := by
  unfold fnAt
  by_cases h : i < L.length
  · simp [List.getD, h]
  · simp [List.getD, List.getElem?_eq_none (Nat.le_of_not_lt h)]; rfl
theorem fnAt_fns (T : List FS) (i : Nat) : fnAt T i = (fns T).getD i zFn := by
  unfold fnAt
  by_cases h : i < T.length
  · simp [List.getD, h]
  · simp [List.getD, List.getElem?_eq_none (Nat.le_of_not_lt h)]; rfl
theorem ValidT_congr {T T' : List FS} (hl : T.length = T'.length) (h : ∀ i, fnAt T i = fnAt T' i) : ValidT T ↔ ValidT T' := by
  have key : ∀ {T T' : List FS}, T.length = T'.length → (∀ i, fnAt T i = fnAt T' i) → ValidT T → ValidT T' := fun {T T'} hl h hv => by
    refine ⟨by rw [← hl]; exact hv.1, fun i hi => ?_⟩
    obtain ⟨a, b, c, d⟩ := hv.2 i (by omega)
    refine ⟨?_, ?_, ?_, ?_⟩
    · rw [← h]; exact a
    · rw [← h]; exact b
    · rw [← h, ← h]; exact c
    · intro k hk; rw [← h, ← h]; exact d k hk
  exact ⟨key hl h, key hl.symm (fun i => (h i).symm)⟩
theorem ValidT_iff (T : List FS) : ValidT T ↔ ValidL (fns T) := ValidT_congr (by simp) (fun i => by rw [fnAt_map, fnAt_fns])
theorem ValidT_fns {T T' : List FS} (h : fns T = fns T') : ValidT T ↔ ValidT T' := by rw [ValidT_iff, ValidT_iff, h]

def adj (p n : Int) (f : Fn) : Fn := { f with parent := if f.parent = -1 then p else f.parent + n }
def ParOk (C : List Fn) : Prop := ∀ i, i < C.length → -1 ≤ (C.getD i zFn).parent ∧ (C.getD i zFn).parent < i
def addL (T C : List FS) (p : Int) : List Fn := fns T ++ (fns C).map (adj p T.length)
def Good (T C : List FS) (p : Int) : Prop := ParOk (fns C) ∧ ValidL (addL T C p)

/-- What Add answers. -/
def AddIs (T C : List FS) (p e : Int) (L : List Fn) : Prop :=
  (¬ ValidT T ∧ e = 1 ∧ L = []) ∨ (ValidT T ∧ ¬ IsPort T p ∧ e = 6 ∧ L = []) ∨ (ValidT T ∧ IsPort T p ∧ Busy T p ∧ e = 17 ∧ L = []) ∨
  (ValidT T ∧ IsPort T p ∧ ¬ Busy T p ∧ ¬ Good T C p ∧ e = 1 ∧ L = []) ∨ (ValidT T ∧ IsPort T p ∧ ¬ Busy T p ∧ Good T C p ∧ e = 0 ∧ L = addL T C p)

theorem AddIs.uni {T C : List FS} {p e e' : Int} {L L' : List Fn} (h : AddIs T C p e L) (h' : AddIs T C p e' L') : e = e' ∧ L = L' := by
  rcases h with ⟨a, rfl, rfl⟩ | ⟨a, b, rfl, rfl⟩ | ⟨a, b, c, rfl, rfl⟩ | ⟨a, b, c, d, rfl, rfl⟩ | ⟨a, b, c, d, rfl, rfl⟩ <;>
    rcases h' with ⟨a', rfl, rfl⟩ | ⟨a', b', rfl, rfl⟩ | ⟨a', b', c', rfl, rfl⟩ | ⟨a', b', c', d', rfl, rfl⟩ | ⟨a', b', c', d', rfl, rfl⟩ <;> first | exact ⟨rfl, rfl⟩ | contradiction

/-- An answer of Add in memory. -/
structure AddP (T C : List FS) (p : Int) (H : Heap) (v : Value) (H' : Heap) : Prop where
  ex : ∃ (out : Sl) (e : Int) (L : List Fn) (T' : List FS), v = .tuple #[.slice out.p out.n out.c, .int .i64 e] ∧ AddIs T C p e L ∧ fns T' = L ∧ Topo H' out T' ∧ (out.p ≠ none → GT H' T') ∧ Ext H H'

theorem Topo.nil (H : Heap) : Topo H ⟨none, 0, 0⟩ [] := ⟨IsS.nil _ _ _, fun x hx => by cases hx⟩
theorem AddP.no {T C : List FS} {p e : Int} {H H' : Heap} (h : AddIs T C p e []) (he : Ext H H') : AddP T C p H (.tuple #[.slice none 0 0, .int .i64 e]) H' :=
  ⟨⟨none, 0, 0⟩, e, [], [], rfl, h, rfl, Topo.nil _, fun h => absurd rfl h, he⟩

/-- Reading a function into a variable of its own. -/
theorem GT.append {H : Heap} {T : List FS} {f : Fn} {s : Sl} (h : GT H T) (hb : Bars H s f.bars) (ht : TyB H s.p t_api_Bar) : GT H (T ++ [(f, s)]) := by
  intro x hx
  simp only [List.mem_append, List.mem_singleton] at hx
  rcases hx with hx | rfl
  · exact h x hx
  · exact ⟨hb, ht⟩

theorem take_fns {T : List FS} {k : Nat} (hk : k < T.length) : (fns T).take (k + 1) = (fns T).take k ++ [fnAt T k] := by
  rw [List.take_add_one, Topo.fnsAt hk]; rfl

theorem getD_take_fn {T : List FS} {k : Nat} (_hk : k < T.length) : (fns T).getD k zFn = fnAt T k := (fnAt_fns T k).symm

theorem adj_take {T : List FS} {k : Nat} (p n : Int) (hk : k < T.length) : ((fns T).map (adj p n)).take (k + 1) = ((fns T).map (adj p n)).take k ++ [adj p n (fnAt T k)] := by
  rw [← List.map_take, take_fns hk, List.map_append, ← List.map_take (f := adj p n)]; rfl

/-- The functions of the card are added. -/
theorem add_card {T C : List FS} {s c : Sl} {p : Int} {H H12 : Heap} {out : Sl} {T1 : List FS} (hT : Topo H s T) (hC : Topo H c C) (hv : ValidT T) (hport : IsPort T p) (hbusy : ¬ Busy T p) (hlen : T.length + C.length ≤ 64) (hcb : ∀ x ∈ C, x.1.bars.length * 16 ≤ 140737488355328)
    (o : Own H.size t_api_Function 11 H12 out (T1.flatMap encF)) (hf1 : fns T1 = fns T) (g1 : GT H12 T1) (e12 : Ext H H12) :
    ∃ I_2 : Sl → Int → Heap → Prop, ∃ M_2 : Sl → Int → Heap → Nat, I_2 out (0 : Int) H12 ∧ (∀ result2 : Sl, ∀ x49 : Int, ∀ H13 : Heap, I_2 result2 x49 H13 → F_hotplug_Add_r2 (AddP T C p H) s p c I_2 M_2 result2 x49 H13) := by
  have hn := hT.len
  have hcn := hC.len
  have hl1 : T1.length = T.length := by have := congrArg List.length hf1; simpa using this
  have bad : ∀ H', Ext H H' → ¬ Good T C p → AddP T C p H (.tuple #[.slice none 0 0, .int .i64 1]) H' := fun H' he hg => AddP.no (.inr (.inr (.inr (.inl ⟨hv, hport, hbusy, hg, rfl, rfl⟩)))) he
  refine loop2 C.length (fun k out H' => ∃ C1 : List FS, fns C1 = ((fns C).map (adj p T.length)).take k ∧ Own H.size t_api_Function 11 H' out ((T1 ++ C1).flatMap encF) ∧ GT H' (T1 ++ C1) ∧ Ext H H' ∧ ∀ i, i < k → -1 ≤ (fnAt C i).parent ∧ (fnAt C i).parent < C.length) ⟨[], rfl, by simpa using o, by simpa using g1, e12, fun i hi => by omega⟩ ?_
  rintro k out2 H13 hk ⟨C1, hC1, o13, g13, e13, hpar⟩
  unfold F_hotplug_Add_r2
  have hc1 : C1.length = k := by have := congrArg List.length hC1; simp at this; omega
  have n13 := Own.len rkFn o13
  rw [List.length_append] at n13
  refine iteB_dec (fun c1 => ?_) (fun c1 => ?_)
  · have hkn : k < C.length := by omega
    obtain ⟨a, hp, hr⟩ := (hC.ext e13).at hkn
    obtain ⟨p0, p1, p2, p3, p4, p5, p6, p7, p8, p9, p10⟩ := rdFn hr
    have hbars := hC.barsAt hkn
    have hbl : (fnAt C k).bars.length * 16 ≤ 140737488355328 := by
      have : C.getD k zF = C[k] := by simp [List.getD, hkn]
      unfold fnAt; rw [this]; exact hcb _ (List.getElem_mem hkn)
    have hadj := adj_take p T.length hkn
    have hparG : Good T C p → -1 ≤ (fnAt C k).parent ∧ (fnAt C k).parent < k := fun hg => by
      have := hg.1 k (by simpa using hkn)
      rw [getD_take_fn hkn] at this
      exact this
    have hpk : ∀ i, i < k + 1 → (i < k → -1 ≤ (fnAt C i).parent ∧ (fnAt C i).parent < C.length) := fun i _ => hpar i
    generalize hF : fnAt C k = f at *
    generalize slAt C k = fs at *
    refine ⟨by omega, by omega, unSome_mk hp ⟨_, p0, _, p1, _, p2, _, p3, _, p4, _, p5, _, p6, _, p7, _, p8, _, p9, fs, p10, local_mk (vs := fnL f fs) rfl rfl fun H15 e15 z15 b15 => ?_⟩⟩
    obtain ⟨q0, q1, q2, q3, q4, q5, q6, q7, q8, q9, q10⟩ := Blk.fn b15
    have x15 := e13.trans e15
    refine ⟨_, q0, iteB_dec (fun d => bad _ x15 (fun hg => by have := hparG hg; omega)) (fun d => ⟨_, q0, iteB_dec (fun d1 => bad _ x15 (fun hg => by have := hparG hg; omega)) (fun d1 => ⟨_, q0, _, q1, _, q2, _, q3, _, q4, _, q5, _, q6, _, q7, _, q8, _, q9, fs, q10, (copyFunction_spec f fs H15 (hbars.ext x15) hbl).mono ?_⟩)⟩)⟩
    rintro v H16 ⟨cs, rfl, bc, tc, e16⟩
    refine ⟨_, _, _, _, _, _, _, _, _, _, cs, rfl, local_mk (vs := fnL f cs) rfl rfl fun H18 e18 z18 b18 => ⟨fun H' => Blk H' H16.size t_api_Function (fnL (adj p T.length f) cs) ∧ Mods [H16.size] H18 H', ⟨_, ((b15.ext e16).ext e18).rd0 rfl, iteB_beq (fun d2 => ⟨b18.ok0 (by simp), letH_mk ?_⟩) (fun d2 => ⟨_, ((b15.ext e16).ext e18).rd0 rfl, b18.ok0 (by simp), letH_mk ?_⟩)⟩, ?_⟩⟩
    · rintro H19 rfl
      refine ⟨?_, Mods.wrs (by simp)⟩
      have := b18.wr (o := 0) (ws := [.int .i64 p])
      have e : adj p T.length f = { f with parent := p } := by unfold adj; rw [if_pos d2]
      rw [e]
      exact this
    · rintro H19 rfl
      refine ⟨?_, Mods.wrs (by simp)⟩
      have := b18.wr (o := 0) (ws := [.int .i64 (IntKind.i64.wrap (f.parent + (s.n : Int)))])
      rw [i64_in (by omega)] at this ⊢
      have e : adj p T.length f = { f with parent := f.parent + s.n } := by unfold adj; rw [if_neg d2, hn]
      rw [e]
      exact this
    · rintro H21 ⟨b21, m21⟩
      unfold F_hotplug_Add_k1
      obtain ⟨u0, u1, u2, u3, u4, u5, u6, u7, u8, u9, u10⟩ := Blk.fn b21
      have e1318 : Ext H13 H18 := (e15.trans e16).trans e18
      have e1321 : Ext H13 H21 := Mods.ext e1318 m21 (by have := (e15.trans e16).size; simp; omega)
      have hz16 : H16.size < H18.size := b18.lt
      have bt : TyB H21 (some ⟨H16.size, 0, none⟩) t_api_Function := fun a ha => by cases ha; exact ⟨_, _, b21⟩
      have bt18 : TyB H18 (some ⟨H16.size, 0, none⟩) t_api_Function := fun a ha => by cases ha; exact ⟨_, _, b18⟩
      have tc18 : TyB H18 cs.p t_api_Bar := tc.mods (S := []) e18.mods (by simp)
      have ncs : ∀ a, cs.p = some a → a.block ∉ [H16.size] := fun a ha => by have := ty_ne tc18 bt18 (by decide) a ha; simpa [blkOf] using this
      have bc21 := (bc.ext e18).mods m21 ncs
      have tc21 := tc18.mods m21 ncs
      refine ⟨_, u0, _, u1, _, u2, _, u3, _, u4, _, u5, _, u6, _, u7, _, u8, _, u9, cs, u10, ?_⟩
      refine apR rkFn (adj p T.length f, cs) (lo := H.size) (o13.ext e1321) (by omega) (e13.trans e1321).size ?_
      intro s' H23 ho hn23 m23
      have x21 := e13.trans e1321
      have nout : ∀ q, TyB H21 q t_api_Bar → ∀ a, q = some a → a.block ∉ blkOf out2.p := fun q hq a ha => ty_ne hq (own_ty (o13.ext e1321)) (by decide) a ha
      refine next2 hkn (by omega) ⟨C1 ++ [(adj p T.length f, cs)], ?_, ?_, ?_, Mods.ext x21 m23 (blkOf_new o13.new), fun i hi => ?_⟩
      · rw [hadj, ← hC1]; simp
      · rw [← List.append_assoc]; exact ho
      · rw [← List.append_assoc]
        exact (GT.append (f := adj p T.length f) (g13.ext e1321) bc21 tc21).mods m23 nout
      · by_cases e : i = k
        · subst e; rw [hF]; omega
        · exact hpar i (by omega)
  · obtain rfl : k = C.length := by omega
    have hfull : fns (T1 ++ C1) = addL T C p := by
      show List.map _ _ = _
      rw [List.map_append]
      show fns T1 ++ fns C1 = _
      rw [hf1, hC1, List.take_of_length_le (by simp)]
      rfl
    have hT13 : Topo H13 out2 (T1 ++ C1) := ⟨Own.is rkFn o13, fun x hx => (g13 x hx).1⟩
    have hiff : ValidT (T1 ++ C1) ↔ ValidL (addL T C p) := by rw [ValidT_iff, hfull]
    refine (eValid_spec (T1 ++ C1) out2 H13 hT13).mono ?_
    rintro v H24 ⟨rfl, e24⟩
    refine ⟨_, rfl, iteB_not (fun d => bad _ (e13.trans e24) (fun hg => by simp at d; exact d (hiff.2 hg.2))) (fun d => ?_)⟩
    have hval : ValidT (T1 ++ C1) := by simpa using d
    refine ⟨out2, 0, _, T1 ++ C1, rfl, .inr (.inr (.inr (.inr ⟨hv, hport, hbusy, ⟨fun i hi => ?_, hiff.1 hval⟩, rfl, rfl⟩))), hfull, hT13.ext e24, fun _ => g13.ext e24, e13.trans e24⟩
    have hi' : i < C.length := by simpa using hi
    have h1 := hpar i hi'
    have h2 := (hval.2 (T.length + i) (by simp; omega)).pa
    rw [fnAt_fns, hfull] at h2
    have h3 : (addL T C p).getD (T.length + i) zFn = adj p T.length (fnAt C i) := by
      unfold addL
      have : (fns T).length = T.length := by simp
      simp only [List.getD]
      rw [List.getElem?_append_right (by omega), this, Nat.add_sub_cancel_left, List.getElem?_map, Topo.fnsAt hi']
      rfl
    rw [h3] at h2
    rw [getD_take_fn hi']
    unfold adj at h2
    dsimp only at h2
    split at h2 <;> omega

theorem Add_spec (T C : List FS) (s c : Sl) (p : Int) (H : Heap) (hT : Topo H s T) (hC : Topo H c C) (hcl : C.length ≤ 1000) (hcb : ∀ x ∈ C, x.1.bars.length * 16 ≤ 140737488355328) :
    CallsH Try.prog n_hotplug_Add #[.slice s.p s.n s.c, .int .i64 p, .slice c.p c.n c.c] H (AddP T C p H) := by
  refine F_hotplug_Add_ok _ _ _ ?_
  unfold F_hotplug_Add
  have hn := hT.len
  have hcn := hC.len
  refine (eValid_spec T s H hT).mono ?_
  rintro v H1 ⟨rfl, e1⟩
  refine ⟨_, rfl, iteB_not (fun d => AddP.no (.inl ⟨by simpa using d, rfl, rfl⟩) e1) (fun d => ?_)⟩
  have hv : ValidT T := by simpa using d
  have hl64 := hv.1
  refine (isPort_spec T s p H1 (hT.ext e1) hv).mono ?_
  rintro v H2 ⟨rfl, rfl⟩
  refine ⟨_, rfl, iteB_not (fun d => AddP.no (.inr (.inl ⟨hv, by simpa using d, rfl, rfl⟩)) e1) (fun d => ?_)⟩
  have hport : IsPort T p := by simpa using d
  refine loop1 T.length (fun k H' => Ext H H' ∧ ∀ i, i < k → (fnAt T i).parent ≠ p) ⟨e1, fun i hi => by omega⟩ ?_
  rintro k H3 hk ⟨e3, hno⟩
  unfold F_hotplug_Add_r4
  refine iteB_dec (fun c1 => ?_) (fun c1 => ?_)
  · have hkn : k < T.length := by omega
    obtain ⟨a, hp, hr⟩ := (hT.ext e3).at hkn
    obtain ⟨p0, p1, p2, p3, p4, p5, p6, p7, p8, p9, p10⟩ := rdFn hr
    refine ⟨by omega, by omega, unSome_mk hp ⟨_, p0, _, p1, _, p2, _, p3, _, p4, _, p5, _, p6, _, p7, _, p8, _, p9, slAt T k, p10, local_mk (vs := fnL (fnAt T k) (slAt T k)) rfl rfl fun H5 e5 z5 b5 => ⟨_, b5.rd0 rfl, iteB_beq (fun d1 => AddP.no (.inr (.inr (.inl ⟨hv, hport, ⟨k, hkn, d1⟩, rfl, rfl⟩))) (e3.trans e5)) (fun d1 => next1 hkn (by omega) ⟨e3.trans e5, fun i hi => ?_⟩)⟩⟩⟩
    by_cases e : i = k
    · subst e; exact d1
    · exact hno i (by omega)
  · obtain rfl : k = T.length := by omega
    have hbusy : ¬ Busy T p := fun ⟨i, hi, hh⟩ => hno i hi hh
    rw [i64_in (n := (64 : Int) - s.n) (by omega)]
    refine iteB_dec (fun c2 => AddP.no (.inr (.inr (.inr (.inl ⟨hv, hport, hbusy, fun hg => ?_, rfl, rfl⟩)))) e3) (fun c2 => ?_)
    · have h1 := hg.2.1
      simp [addL] at h1
      omega
    rw [i64_in (n := (s.n : Int) + c.n) (by omega)]
    refine ⟨by omega, by omega, by omega, letH_mk ?_⟩
    intro H6 h6
    have e6 : Ext H3 H6 := by rw [h6]; exact Ext.push _ _
    have o6 : Own H.size t_api_Function 11 H6 ⟨some ⟨H3.size, 0, none⟩, 0, ((s.n : Int) + c.n).toNat⟩ (([] : List FS).flatMap encF) := by
      rw [h6]
      refine Own.make e3.size ?_ rfl
      show _ ≤ 9223372036854775807
      omega
    clear h6
    refine loop2 T.length (fun j out H' => ∃ T1 : List FS, fns T1 = (fns T).take j ∧ Own H.size t_api_Function 11 H' out (T1.flatMap encF) ∧ GT H' T1 ∧ Ext H H') ⟨[], rfl, o6, (fun x hx => by cases hx), e3.trans e6⟩ ?_
    rintro j out H7 hj ⟨T1, hf1, o7, g7, e7⟩
    unfold F_hotplug_Add_r3
    have h1 : T1.length = j := by have := congrArg List.length hf1; simp at this; omega
    have n7 := Own.len rkFn o7
    refine iteB_dec (fun d2 => ?_) (fun d2 => ?_)
    · have hjn : j < T.length := by omega
      obtain ⟨a, hp, hr⟩ := (hT.ext e7).at hjn
      obtain ⟨p0, p1, p2, p3, p4, p5, p6, p7, p8, p9, p10⟩ := rdFn hr
      have hbars := hT.barsAt hjn
      have hbl := (hv.2 j hjn).va.bl
      have hrg : regs (fnAt T j).bridge ≤ 6 := by unfold regs; split <;> omega
      have htk := take_fns hjn
      generalize fnAt T j = f at *
      generalize slAt T j = fs at *
      refine ⟨by omega, by omega, unSome_mk hp ⟨_, p0, _, p1, _, p2, _, p3, _, p4, _, p5, _, p6, _, p7, _, p8, _, p9, fs, p10, local_mk (vs := fnL f fs) rfl rfl fun H9 e9 z9 b9 => ?_⟩⟩
      obtain ⟨q0, q1, q2, q3, q4, q5, q6, q7, q8, q9, q10⟩ := Blk.fn b9
      refine ⟨_, q0, _, q1, _, q2, _, q3, _, q4, _, q5, _, q6, _, q7, _, q8, _, q9, fs, q10, (copyFunction_spec f fs H9 (hbars.ext (e7.trans e9)) (by omega)).mono ?_⟩
      rintro v H10 ⟨cs, rfl, bc, tc, e10⟩
      refine ⟨_, _, _, _, _, _, _, _, _, _, cs, rfl, ?_⟩
      have e710 := e9.trans e10
      refine apR rkFn (f, cs) (lo := H.size) (o7.ext e710) (by omega) (e7.trans e710).size ?_
      intro s' H12 ho hn12 m12
      have nout : ∀ q, TyB H10 q t_api_Bar → ∀ a, q = some a → a.block ∉ blkOf out.p := fun q hq a ha => ty_ne hq (own_ty (o7.ext e710)) (by decide) a ha
      refine next2 hjn (by omega) ⟨T1 ++ [(f, cs)], ?_, ho, (GT.append (g7.ext e710) bc tc).mods m12 nout, Mods.ext (e7.trans e710) m12 (blkOf_new o7.new)⟩
      rw [htk, ← hf1]; simp
    · obtain rfl : j = T.length := by omega
      exact add_card hT hC hv hport hbusy (by omega) hcb o7 (by rw [hf1, List.take_of_length_le (by simp)]) g7 e7

end Go.Proofs.Ytnhhncjflnlfaaa
