/-
  Contracts of the zones' functions.
-/
import Derived.Test.YtiikkapdchodkaaT2
import Derived.Test.YtiikkapdchodkaaC4
namespace Go.Proofs.Ytiikkapdchodkaa
open Go.Eng

variable {Q : Nat → Prop}

abbrev Trp := Int × Int × Int
def encT (a : Trp) : List Value := [.int .i64 a.1, .int .i64 a.2.1, .int .i64 a.2.2]
theorem encT_len (a : Trp) : (encT a).length = 3 := rfl
abbrev Trps (H : Heap) (s : Sl) (l : List Trp) : Prop := IsS 3 encT H s l
def kd (A : List Trp) (i : Nat) : Int := (A.getD i (0, 0, 0)).1
def tp (A : List Trp) (i : Nat) : Int := (A.getD i (0, 0, 0)).2.1
def hy (A : List Trp) (i : Nat) : Int := (A.getD i (0, 0, 0)).2.2

theorem Trps.atN {H : Heap} {s : Sl} {A : List Trp} (h : Trps H s A) {k : Nat} (hk : k < A.length) :
    ∃ a, s.p = some a ∧ rd H (a.add ((k : Int).toNat * 3)) = some (.int .i64 (kd A k)) ∧ rd H ((a.add ((k : Int).toNat * 3)).add 1) = some (.int .i64 (tp A k)) ∧
      rd H ((a.add ((k : Int).toNat * 3)).add 2) = some (.int .i64 (hy A k)) := by
  obtain ⟨a, hp, hr⟩ := IsS.atN h (0, 0, 0) hk
  exact ⟨a, hp, hr 0 _ rfl, hr 1 _ rfl, hr 2 _ rfl⟩

def OkT (A : List Trp) (i : Nat) : Prop := 1 ≤ kd A i ∧ kd A i ≤ 3 ∧ -67108864 ≤ tp A i ∧ tp A i ≤ 67108864 ∧ 0 ≤ hy A i ∧ hy A i ≤ 16777216
instance (A : List Trp) (i : Nat) : Decidable (OkT A i) := by unfold OkT; infer_instance
def VT (A : List Trp) : Prop := A.length ≤ 12 ∧ ∀ i, i < A.length → OkT A i
instance (A : List Trp) : Decidable (VT A) := by unfold VT; infer_instance
def errI (p : Prop) [Decidable p] : Int := if p then 0 else 1
theorem errI_t {p : Prop} [Decidable p] (h : p) : errI p = 0 := if_pos h
theorem errI_f {p : Prop} [Decidable p] (h : ¬ p) : errI p = 1 := if_neg h

theorem CheckTrips_spec (H : Heap) (s : Sl) (A : List Trp) (h : Trps H s A) :
    CallsH Try.prog n_thermal_CheckTrips #[.slice s.p s.n s.c] H (IntP .i64 (errI (VT A)) H) := by
  refine F_thermal_CheckTrips_ok _ ?_
  unfold F_thermal_CheckTrips
  rw [h.len]
  refine iteB_dec (fun c => ?_) (fun c => ?_)
  · exact ⟨by rw [errI_f (fun hv => by have := hv.1; omega)], .refl _⟩
  refine loop1 A.length (fun k H' => Ext H H' ∧ ∀ i, i < k → OkT A i) ⟨.refl _, fun i hi => by omega⟩ ?_
  rintro k H1 hk ⟨e1, hall⟩
  unfold F_thermal_CheckTrips_r2
  rw [h.len]
  refine iteB_dec (fun c => ?_) (fun c => ?_)
  · have hkn : k < A.length := by omega
    obtain ⟨a, hp, r0, r1, r2⟩ := Trps.atN (h.ext e1) hkn
    refine ⟨by omega, by omega, unSome_mk hp ⟨_, r0, _, r1, _, r2, local_mk rfl rfl fun H2 e2 _ b2 => ?_⟩⟩
    have x2 := e1.trans e2
    have bad : ¬ OkT A k → IntP .i64 (errI (VT A)) H (.int .i64 1) H2 := fun hb => ⟨by rw [errI_f (fun hv => hb (hv.2 k hkn))], x2⟩
    refine ⟨fun H' => H' = H2 ∧ 1 ≤ kd A k ∧ kd A k ≤ 3, ?_, ?_⟩
    · refine ⟨_, b2.rd0 rfl, iteB_bne (fun c1 => ⟨_, b2.rd0 rfl, iteB_bne (fun c2 => ⟨_, b2.rd0 rfl, iteB_bne (fun c3 => ?_) (fun c3 => ?_)⟩) (fun c2 => ?_)⟩) (fun c1 => ?_)⟩
      · exact bad (fun ho => by unfold OkT at ho; omega)
      · exact ⟨rfl, by omega, by omega⟩
      · exact ⟨rfl, by omega, by omega⟩
      · exact ⟨rfl, by omega, by omega⟩
    rintro H4 ⟨rfl, k1, k2⟩
    unfold F_thermal_CheckTrips_k1
    refine ⟨_, b2.rd (i := 1) rfl, iteB_dec (fun c1 => ?_) (fun c1 => ⟨_, b2.rd (i := 1) rfl, iteB_dec (fun c2 => ?_) (fun c2 => ⟨_, b2.rd (i := 2) rfl, iteB_dec (fun c3 => ?_) (fun c3 => ⟨_, b2.rd (i := 2) rfl, iteB_dec (fun c4 => ?_) (fun c4 => ?_)⟩)⟩)⟩)⟩
    · exact bad (fun ho => by unfold OkT at ho; omega)
    · exact bad (fun ho => by unfold OkT at ho; omega)
    · exact bad (fun ho => by unfold OkT at ho; omega)
    · exact bad (fun ho => by unfold OkT at ho; omega)
    · refine next1 hkn (by omega) ⟨x2, fun i hi => ?_⟩
      by_cases e : i = k
      · subst e; unfold OkT; omega
      · exact hall i (by omega)
  · exact ⟨by rw [errI_t ⟨by omega, fun i hi => hall i (by omega)⟩], e1⟩

theorem rCheckTrips_spec (H : Heap) (s : Sl) (A : List Trp) (h : Trps H s A) :
    CallsH Try.prog n_ref39_CheckTrips #[.slice s.p s.n s.c] H (IntP .i64 (errI (VT A)) H) := by
  refine F_ref39_CheckTrips_ok _ ?_
  unfold F_ref39_CheckTrips
  rw [h.len]
  refine iteB_dec (fun c => ?_) (fun c => ?_)
  · exact ⟨by rw [errI_f (fun hv => by have := hv.1; omega)], .refl _⟩
  refine loop1 A.length (fun k H' => Ext H H' ∧ ∀ i, i < k → OkT A i) ⟨.refl _, fun i hi => by omega⟩ ?_
  rintro k H1 hk ⟨e1, hall⟩
  unfold F_ref39_CheckTrips_r1
  rw [h.len]
  refine iteB_dec (fun c => ?_) (fun c => ?_)
  · have hkn : k < A.length := by omega
    obtain ⟨a, hp, r0, r1, r2⟩ := Trps.atN (h.ext e1) hkn
    refine ⟨by omega, by omega, unSome_mk hp ⟨_, r0, _, r1, _, r2, local_mk rfl rfl fun H2 e2 _ b2 => ?_⟩⟩
    have x2 := e1.trans e2
    have bad : ¬ OkT A k → IntP .i64 (errI (VT A)) H (.int .i64 1) H2 := fun hb => ⟨by rw [errI_f (fun hv => hb (hv.2 k hkn))], x2⟩
    refine ⟨_, b2.rd0 rfl, iteB_dec (fun d1 => ?_) (fun d1 => ⟨_, b2.rd0 rfl, iteB_dec (fun d2 => ?_) (fun d2 => ⟨_, b2.rd (i := 1) rfl, iteB_dec (fun c1 => ?_) (fun c1 => ⟨_, b2.rd (i := 1) rfl, iteB_dec (fun c2 => ?_) (fun c2 => ⟨_, b2.rd (i := 2) rfl, iteB_dec (fun c3 => ?_) (fun c3 => ⟨_, b2.rd (i := 2) rfl, iteB_dec (fun c4 => ?_) (fun c4 => ?_)⟩)⟩)⟩)⟩)⟩)⟩
    · exact bad (fun ho => by unfold OkT at ho; omega)
    · exact bad (fun ho => by unfold OkT at ho; omega)
    · exact bad (fun ho => by unfold OkT at ho; omega)
    · exact bad (fun ho => by unfold OkT at ho; omega)
    · exact bad (fun ho => by unfold OkT at ho; omega)
    · exact bad (fun ho => by unfold OkT at ho; omega)
    · refine next1 hkn (by omega) ⟨x2, fun i hi => ?_⟩
      by_cases e : i = k
      · subst e; unfold OkT; omega
      · exact hall i (by omega)
  · exact ⟨by rw [errI_t ⟨by omega, fun i hi => hall i (by omega)⟩], e1⟩

/-! ### rows of truth values -/

def encB (b : Bool) : List Value := [.bool b]
theorem encB_len (b : Bool) : (encB b).length = 1 := rfl
def BB (H : Heap) (b n : Nat) (f : Nat → Bool) : Prop := RB H b t_bool 1 encB (tab n f)

section
variable {H H' : Heap} {b n : Nat} {f g : Nat → Bool}
theorem BB.lt (h : BB H b n f) : b < H.size := RB.lt h
theorem BB.ext (h : BB H b n f) (he : Ext H H') : BB H' b n f := RB.ext h he
theorem BB.mods {S : List Nat} (h : BB H b n f) (he : Mods S H H') (hb : b ∉ S) : BB H' b n f := RB.mods h he hb
theorem BB.congr (h : BB H b n f) (hg : ∀ i, i < n → f i = g i) : BB H b n g := by unfold BB; rw [← tab_congr hg]; exact h
theorem BB.rd (h : BB H b n f) {i : Nat} (hi : i < n) : Eng.rd H ((⟨b, 0, none⟩ : Addr).add ((i : Int).toNat * 1)) = some (.bool (f i)) := RB.rd0 h (tab_get (by simpa using hi)) rfl
theorem BB.ok (h : BB H b n f) {i : Nat} (hi : i < n) : okRow H ((⟨b, 0, none⟩ : Addr).add ((i : Int).toNat * 1)) 1 := RB.ok0 h (by rw [tab_length]; simpa using hi) (Nat.le_refl _)
theorem BB.wr (h : BB H b n f) {i : Nat} (hi : i < n) (v : Bool) : BB (wrs H ((⟨b, 0, none⟩ : Addr).add ((i : Int).toNat * 1)) [.bool v]) b n (upd f i v) := by
  unfold BB
  rw [← tab_set hi]
  exact RB.wrRow h v (by rw [tab_length]; exact hi)
theorem BB.isS (h : BB H b n f) (c : Nat) : IsS 1 encB H ⟨some ⟨b, 0, none⟩, n, c⟩ (tab n f) := RB.isS h n c (tab_length _ _).symm
theorem BB.zero (H : Heap) (n : Nat) : BB (H.push (.cells (zeroRow (.bool false) n) t_bool (0, 0))) H.size n (fun _ => false) := by
  have := RB.zero (sz := 1) (enc := encB) H t_bool encB_len n (.bool false) false rfl
  rw [tab_replicate] at this
  exact this
end

/-! ### a zone in memory -/

structure ZM (tm : TypeId) (Q : Nat → Prop) (H : Heap) (b ba : Nat) (T : List Trp) (act : Nat → Bool) (n lev : Int) : Prop where
  ex : ∃ (d : Sl) (ca : Nat), Blk H b tm [.slice d.p d.n d.c, .slice (some ⟨ba, 0, none⟩) T.length ca, .int .i64 n, .int .i64 lev] ∧ Trps H d T ∧
    (∀ a, d.p = some a → a.block ≠ b ∧ a.block ≠ ba ∧ a.block < H.size ∧ Q a.block)
  ac : BB H ba T.length act
  ne : b ≠ ba

section
variable {tm : TypeId} {H H' : Heap} {b ba : Nat} {T : List Trp} {act act' : Nat → Bool} {n lev : Int}

theorem ZM.mods {S : List Nat} (h : ZM tm Q H b ba T act n lev) (hm : Mods S H H') (hb : b ∉ S) (hba : ba ∉ S) (hq : ∀ k, k < H.size → Q k → k ∉ S) : ZM tm Q H' b ba T act n lev := by
  obtain ⟨⟨d, ca, g1, g2, g3⟩, g4, g5⟩ := h
  have := hm.size
  exact ⟨⟨d, ca, g1.mods hm hb, g2.mods hm (fun a ha => hq _ (g3 a ha).2.2.1 (g3 a ha).2.2.2), fun a ha => ⟨(g3 a ha).1, (g3 a ha).2.1, by have := (g3 a ha).2.2.1; omega, (g3 a ha).2.2.2⟩⟩, g4.mods hm hba, g5⟩
theorem ZM.ext (h : ZM tm Q H b ba T act n lev) (he : Ext H H') : ZM tm Q H' b ba T act n lev := h.mods (S := []) he.mods (by simp) (by simp) (by simp)
theorem ZM.congr (h : ZM tm Q H b ba T act n lev) (hg : ∀ i, i < T.length → act i = act' i) : ZM tm Q H b ba T act' n lev := by
  obtain ⟨g1, g4, g5⟩ := h
  exact ⟨g1, g4.congr hg, g5⟩
theorem ZM.lt (h : ZM tm Q H b ba T act n lev) : b < H.size ∧ ba < H.size := by
  obtain ⟨⟨d, ca, g1, g2, g3⟩, g4, g5⟩ := h
  exact ⟨g1.lt, g4.lt⟩
theorem ZM.setAct (h : ZM tm Q H b ba T act n lev) {i : Nat} (hi : i < T.length) (v : Bool) : ZM tm Q (wrs H ((⟨ba, 0, none⟩ : Addr).add ((i : Int).toNat * 1)) [.bool v]) b ba T (upd act i v) n lev := by
  obtain ⟨⟨d, ca, g1, g2, g3⟩, g4, g5⟩ := h
  have hm : Mods [ba] H (wrs H ((⟨ba, 0, none⟩ : Addr).add ((i : Int).toNat * 1)) [.bool v]) := mods_wr_add (by simp)
  have := hm.size
  exact ⟨⟨d, ca, g1.mods hm (by simpa using g5), g2.mods hm (fun a ha => by simpa using (g3 a ha).2.1), fun a ha => ⟨(g3 a ha).1, (g3 a ha).2.1, by have := (g3 a ha).2.2.1; omega, (g3 a ha).2.2.2⟩⟩, g4.wr hi v, g5⟩
theorem ZM.setLev (h : ZM tm Q H b ba T act n lev) (v : Int) : ZM tm Q (wrs H ((⟨b, 0, none⟩ : Addr).add 3) [.int .i64 v]) b ba T act n v := by
  obtain ⟨⟨d, ca, g1, g2, g3⟩, g4, g5⟩ := h
  have hm : Mods [b] H (wrs H ((⟨b, 0, none⟩ : Addr).add 3) [.int .i64 v]) := mods_wr_add (by simp)
  have := hm.size
  exact ⟨⟨d, ca, g1.wr1, g2.mods hm (fun a ha => by simpa using (g3 a ha).1), fun a ha => ⟨(g3 a ha).1, (g3 a ha).2.1, by have := (g3 a ha).2.2.1; omega, (g3 a ha).2.2.2⟩⟩, g4.mods hm (by simpa using fun e => g5 e.symm), g5⟩
end

def ZoneOk (T : List Trp) (n : Int) : Prop := VT T ∧ 0 ≤ n ∧ n ≤ 64
instance (T : List Trp) (n : Int) : Decidable (ZoneOk T n) := by unfold ZoneOk; infer_instance

def NewZP (tm : TypeId) (C Q : Nat → Prop) (T : List Trp) (n : Int) (H : Heap) (v : Value) (H' : Heap) : Prop :=
  (ZoneOk T n ∧ ∃ b ba : Nat, v = .tuple #[.pointer (some ⟨b, 0, none⟩), .int .i64 0] ∧ H.size ≤ b ∧ H.size ≤ ba ∧ (((∀ k, C k → k < H.size ∧ Q k)) → ZM tm Q H' b ba T (fun _ => false) n 0) ∧ Ext H H') ∨
  (¬ ZoneOk T n ∧ v = .tuple #[.pointer none, .int .i64 1] ∧ Ext H H')

theorem CloneT_spec (H : Heap) (s : Sl) (l : List Trp) (h : Trps H s l) (hn : s.n ≤ 1000000) :
    CallsH Try.prog n_slices_Clone_sl_api_Trip_api_Trip #[.slice s.p s.n s.c] H (CloneP 3 encT l H) := by
  refine F_slices_Clone_sl_api_Trip_api_Trip_ok _ ?_
  exact clone_vc (P := Try.prog) (st := t_sl_api_Trip) (e := t_api_Trip) (R := CloneP 3 encT l H) (z := .agg #[.int .i64 0, .int .i64 0, .int .i64 0]) (sz := 3) (bytes := 24) (enc := encT) (by kernel_rfl) (by kernel_rfl) rfl (by omega) encT_len (fun x u hu => by simp [encT] at hu; rcases hu with rfl | rfl | rfl <;> rfl) h (by simp [maxLen]; omega) (by omega)
    (fun s' H' ho hi he => ⟨s', rfl, hi, ho.new, ho.lt, he⟩)

theorem CloneB_spec (H : Heap) (s : Sl) (l : List Bool) (h : IsS 1 encB H s l) (hn : s.n ≤ 1000000) :
    CallsH Try.prog n_slices_Clone_sl_bool_bool #[.slice s.p s.n s.c] H (CloneP 1 encB l H) := by
  refine F_slices_Clone_sl_bool_bool_ok _ ?_
  exact clone_vc (P := Try.prog) (st := t_sl_bool) (e := t_bool) (R := CloneP 1 encB l H) (z := .bool false) (sz := 1) (bytes := 1) (enc := encB) (by kernel_rfl) (by kernel_rfl) rfl (by omega) encB_len (fun x u hu => by simp [encB] at hu; subst hu; rfl) h (by simp [maxLen]; omega) (by omega)
    (fun s' H' ho hi he => ⟨s', rfl, hi, ho.new, ho.lt, he⟩)

theorem NewZone_spec (H : Heap) (s : Sl) (T : List Trp) (n : Int) (h : Trps H s T) :
    CallsH Try.prog n_thermal_NewZone #[.slice s.p s.n s.c, .int .i64 n] H (NewZP t_thermal_Zone (fun _ => False) (fun k => H.size ≤ k) T n H) := by
  refine F_thermal_NewZone_ok _ _ ?_
  unfold F_thermal_NewZone
  refine (CheckTrips_spec H s T h).mono ?_
  rintro v H1 ⟨rfl, e1⟩
  have bad : ¬ ZoneOk T n → ∀ x, x = 1 → NewZP t_thermal_Zone (fun _ => False) (fun k => H.size ≤ k) T n H (.tuple #[.pointer none, .int .i64 x]) H1 := by
    rintro hb x rfl; exact .inr ⟨hb, rfl, e1⟩
  refine ⟨_, rfl, iteB_bne (fun c => ?_) (fun c => iteB_dec (fun c1 => ?_) (fun c1 => iteB_dec (fun c2 => ?_) (fun c2 => ?_)))⟩
  · have hb : ¬ VT T := fun hv => c (errI_t hv)
    exact bad (fun hz => hb hz.1) _ (errI_f hb)
  · exact bad (fun hz => by have := hz.2; omega) _ rfl
  · exact bad (fun hz => by have := hz.2; omega) _ rfl
  have hv : VT T := by
    by_cases hb : VT T
    · exact hb
    · rw [errI_f hb] at c; omega
  have hok : ZoneOk T n := ⟨hv, by omega, by omega⟩
  have hl := hv.1
  have hn := h.len
  have hto : ((s.n : Int).toNat) = T.length := by rw [h.len]; simp
  rw [hto]
  refine ⟨?_, ?_⟩
  · refine (CloneT_spec H1 s T (h.ext e1) (by omega)).mono ?_
    rintro v H2 ⟨s1, rfl, i1, n1, l1, e2⟩
    refine ⟨_, rfl, by omega, by omega, by omega, letH_mk ?_⟩
    rintro H3 rfl
    have z := BB.zero H2 T.length
    refine push_mk (vs := [.slice s1.p s1.n s1.c, .slice (some (⟨H2.size, 0, none⟩ : Addr)) T.length T.length, .int .i64 n, .int .i64 0]) fun H4 e4 z4 b4 => ?_
    have e3 := Ext.push H2 (.cells (zeroRow (.bool false) T.length) t_bool (0, 0))
    have z1 := e1.size
    have z2 := e2.size
    simp only [Array.size_push] at z4 b4
    refine .inl ⟨hok, H2.size + 1, H2.size, by simp, by omega, by omega, fun _ => ⟨⟨s1, T.length, b4, (i1.ext e3).ext e4, fun a ha => ?_⟩, z.ext e4, by omega⟩, ((e1.trans e2).trans e3).trans e4⟩
    have := n1 a ha
    have := l1 a ha
    omega
  · refine ⟨by omega, by omega, by omega, letH_mk ?_⟩
    rintro H3 rfl
    have z := BB.zero H1 T.length
    have e3 := Ext.push H1 (.cells (zeroRow (.bool false) T.length) t_bool (0, 0))
    refine (CloneT_spec _ s T ((h.ext e1).ext e3) (by omega)).mono ?_
    rintro v H2 ⟨s1, rfl, i1, n1, l1, e2⟩
    refine ⟨_, rfl, ?_⟩
    refine push_mk (vs := [.slice s1.p s1.n s1.c, .slice (some (⟨H1.size, 0, none⟩ : Addr)) T.length T.length, .int .i64 n, .int .i64 0]) fun H4 e4 z4 b4 => ?_
    have z1 := e1.size
    have z2 := e2.size
    simp only [Array.size_push] at z2 n1
    refine .inl ⟨hok, H2.size, H1.size, rfl, by omega, by omega, fun _ => ⟨⟨s1, T.length, b4, i1.ext e4, fun a ha => ?_⟩, (z.ext e2).ext e4, by omega⟩, ((e1.trans e3).trans e2).trans e4⟩
    have := n1 a ha
    have := l1 a ha
    omega

theorem rNewZone_spec (H : Heap) (s : Sl) (T : List Trp) (n : Int) (h : Trps H s T) :
    CallsH Try.prog n_ref39_NewZone #[.slice s.p s.n s.c, .int .i64 n] H (NewZP t_ref39_Zone (fun k => k ∈ blkOf s.p) Q T n H) := by
  refine F_ref39_NewZone_ok _ _ ?_
  unfold F_ref39_NewZone
  refine (rCheckTrips_spec H s T h).mono ?_
  rintro v H1 ⟨rfl, e1⟩
  have bad : ¬ ZoneOk T n → ∀ x, x = 1 → NewZP t_ref39_Zone (fun k => k ∈ blkOf s.p) Q T n H (.tuple #[.pointer none, .int .i64 x]) H1 := by
    rintro hb x rfl; exact .inr ⟨hb, rfl, e1⟩
  refine ⟨_, rfl, iteB_bne (fun c => ?_) (fun c => iteB_dec (fun c1 => ?_) (fun c1 => iteB_dec (fun c2 => ?_) (fun c2 => ?_)))⟩
  · have hb : ¬ VT T := fun hv => c (errI_t hv)
    exact bad (fun hz => hb hz.1) _ (errI_f hb)
  · exact bad (fun hz => by have := hz.2; omega) _ rfl
  · exact bad (fun hz => by have := hz.2; omega) _ rfl
  have hv : VT T := by
    by_cases hb : VT T
    · exact hb
    · rw [errI_f hb] at c; omega
  have hok : ZoneOk T n := ⟨hv, by omega, by omega⟩
  have hl := hv.1
  have hn := h.len
  have hto : ((s.n : Int).toNat) = T.length := by rw [h.len]; simp
  rw [hto]
  refine ⟨by omega, by omega, by omega, letH_mk ?_⟩
  rintro H3 rfl
  have z := BB.zero H1 T.length
  have e3 := Ext.push H1 (.cells (zeroRow (.bool false) T.length) t_bool (0, 0))
  refine push_mk (vs := [.slice s.p s.n s.c, .slice (some (⟨H1.size, 0, none⟩ : Addr)) T.length T.length, .int .i64 n, .int .i64 0]) fun H4 e4 z4 b4 => ?_
  have z1 := e1.size
  simp only [Array.size_push] at z4 b4
  refine .inl ⟨hok, H1.size + 1, H1.size, by simp, by omega, by omega, fun hC => ⟨⟨s, T.length, b4, ((h.ext e1).ext e3).ext e4, fun a ha => ?_⟩, z.ext e4, by omega⟩, (e1.trans e3).trans e4⟩
  have := hC a.block (by rw [ha]; simp [blkOf])
  exact ⟨by omega, by omega, by omega, this.2⟩

end Go.Proofs.Ytiikkapdchodkaa
