/-
  The contracts of Class, the program's and the reference's.
-/
import Derived.Test.YtfodidlecpiohaaR8
namespace Go.Proofs.Ytfodidlecpiohaa
open Go.Eng

def bkI (B : List Bar) (i : Int) : Int := if 0 ≤ i then bk B i.toNat else 0
def bzI (B : List Bar) (i : Int) : Int := if 0 ≤ i then bz B i.toNat else 0
theorem bk_out {B : List Bar} {i : Nat} (h : B.length ≤ i) : bk B i = 0 ∧ bz B i = 0 := by
  unfold bk bz
  simp [List.getD, List.getElem?_eq_none h]

theorem rbar_spec (f : Fn) (s : Sl) (i : Int) (H : Heap) (h : Bars H s f.bars) :
    CallsH Try.prog n_ref18_bar #[fnV f s, .int .i64 i] H (fun v H' => v = .agg #[.int .i64 (bkI f.bars i), .int .i64 (bzI f.bars i)] ∧ Ext H H') := by
  refine F_ref18_bar_ok _ _ _ _ _ _ _ _ _ _ _ _ ?_
  unfold F_ref18_bar
  have hn := h.len
  refine push_mk (vs := fnL f s) fun H1 e1 z1 b1 => push_mk (vs := encBar (0, 0)) fun H2 e2 z2 b2 => ?_
  have x2 := e1.trans e2
  have wr : ∀ a b : Int, bkI f.bars i = a → bzI f.bars i = b → okRow H2 (⟨H1.size, 0, none⟩ : Addr) 2 ∧ (
      letH (wrs H2 (⟨H1.size, 0, none⟩ : Addr) [.int .i64 a, .int .i64 b]) (fun H3 : Heap =>
      ∃ r : Int, rd H3 (⟨H1.size, 0, none⟩ : Addr) = some (.int .i64 r) ∧ ∃ r1 : Int, rd H3 ((⟨H1.size, 0, none⟩ : Addr).add 1) = some (.int .i64 r1) ∧ (
      (.agg #[.int .i64 r, .int .i64 r1] : Value) = .agg #[.int .i64 (bkI f.bars i), .int .i64 (bzI f.bars i)] ∧ Ext H H3))) := by
    intro a b ha hb
    refine ⟨b2.ok0 (by simp [encBar]), letH_mk ?_⟩
    intro H3 h3
    have b3 : Blk H3 H1.size t_api_Bar (encBar (a, b)) := by rw [h3]; exact b2.wr
    have m3 : Mods [H1.size] H2 H3 := by rw [h3]; exact Mods.wrs (by simp)
    refine ⟨a, b3.rd0 rfl, b, b3.rd (i := 1) rfl, by rw [ha, hb], Mods.ext x2 m3 (by simp; omega)⟩
  refine iteB_d (fun c => wr 0 0 (by unfold bkI; rw [if_neg (by omega)]) (by unfold bzI; rw [if_neg (by omega)])) (fun c => ⟨s, (b1.ext e2).rd (i := 10) rfl, iteB_d (fun c1 => wr 0 0 ?_ ?_) (fun c1 => ?_)⟩)
  · unfold bkI; rw [if_pos (by omega)]; exact (bk_out (by omega)).1
  · unfold bzI; rw [if_pos (by omega)]; exact (bk_out (by omega)).2
  · obtain ⟨k, rfl⟩ := Int.eq_ofNat_of_zero_le (by omega : 0 ≤ i)
    obtain ⟨a, hp, r0, r1⟩ := Bars.atN (h.ext x2) (k := k) (by omega)
    exact ⟨s, (b1.ext e2).rd (i := 10) rfl, by omega, by omega, unSome_mk hp ⟨_, r0, _, r1, wr _ _ (by unfold bkI; rw [if_pos (by omega)]; rfl) (by unfold bzI; rw [if_pos (by omega)]; rfl)⟩⟩

def ClOk (T : List FS) (i k : Int) : Prop := ValidT T ∧ (0 ≤ i ∧ i < T.length) ∧ bkI (fnAt T i.toNat).bars k ≠ 0
instance (T : List FS) (i k : Int) : Decidable (ClOk T i k) := by unfold ClOk; infer_instance
def clsV (T : List FS) (high : Bool) (i k : Int) : Value := if ClOk T i k then .tuple #[.int .i64 (classF T high i.toNat (bkI (fnAt T i.toNat).bars k)), .bool true] else .tuple #[.int .i64 0, .bool false]

theorem Class_spec (T : List FS) (s : Sl) (high : Bool) (i k : Int) (H : Heap) (h : Topo H s T) :
    CallsH Try.prog n_resources_Class #[.slice s.p s.n s.c, .bool high, .int .i64 i, .int .i64 k] H (fun v H' => v = clsV T high i k ∧ Ext H H') := by
  refine F_resources_Class_ok _ _ _ _ ?_
  unfold F_resources_Class
  have no : ∀ H', Ext H H' → ¬ ClOk T i k → (.tuple #[.int .i64 0, .bool false] : Value) = clsV T high i k ∧ Ext H H' := fun H' he hn => ⟨by unfold clsV; rw [if_neg hn], he⟩
  have hn := h.len
  refine (eValid_spec T s H h).mono ?_
  rintro v H1 ⟨rfl, e1⟩
  refine ⟨_, rfl, iteB_not (fun c => no _ e1 (fun ho => by simp at c; exact c ho.1)) (fun c => iteB_d (fun c1 => no _ e1 (fun ho => by have := ho.2.1; omega)) (fun c1 => iteB_d (fun c2 => no _ e1 (fun ho => by have := ho.2.1; omega)) (fun c2 => ?_)))⟩
  have hv : ValidT T := by simpa using c
  obtain ⟨j, rfl⟩ := Int.eq_ofNat_of_zero_le (by omega : 0 ≤ i)
  have hj : j < T.length := by omega
  obtain ⟨a, hp, hr⟩ := (h.ext e1).at hj
  have r10 := (rdFn hr).2.2.2.2.2.2.2.2.2.2
  have hB := (h.ext e1).barsAt hj
  have hbn := hB.len
  refine ⟨by omega, by omega, unSome_mk hp ⟨slAt T j, r10, iteB_d (fun c3 => no _ e1 (fun ho => ho.2.2 ?_)) (fun c3 => iteB_d (fun c4 => no _ e1 (fun ho => ho.2.2 ?_)) (fun c4 => ?_))⟩⟩
  · unfold bkI; rw [if_neg (by omega)]
  · unfold bkI; rw [if_pos (by omega)]; exact (bk_out (by rw [Int.toNat_natCast]; omega)).1
  · obtain ⟨m, rfl⟩ := Int.eq_ofNat_of_zero_le (by omega : 0 ≤ k)
    obtain ⟨b, hq, r0, _⟩ := Bars.atN hB (k := m) (by omega)
    have hbk : bkI (fnAt T j).bars m = bk (fnAt T j).bars m := by unfold bkI; rw [if_pos (by omega)]; rfl
    refine ⟨by omega, by omega, unSome_mk hq ⟨_, r0, iteB_beq (fun c5 => no _ e1 (fun ho => ho.2.2 (by rw [Int.toNat_natCast, hbk]; exact c5))) (fun c5 => ⟨by omega, by omega, unSome_mk hq ⟨_, r0, (classOf_spec T s high j _ H1 (h.ext e1) hv hj).mono ?_⟩⟩)⟩⟩
    rintro v H2 ⟨rfl, rfl⟩
    refine ⟨_, rfl, ?_, e1⟩
    unfold clsV
    rw [if_pos ⟨hv, by omega, by rw [Int.toNat_natCast, hbk]; exact c5⟩, Int.toNat_natCast, hbk]

theorem rClass_spec (T : List FS) (s : Sl) (high : Bool) (i k : Int) (H : Heap) (h : Topo H s T) :
    CallsH Try.prog n_ref18_Class #[.slice s.p s.n s.c, .bool high, .int .i64 i, .int .i64 k] H (fun v H' => v = clsV T high i k ∧ Ext H H') := by
  refine F_ref18_Class_ok _ _ _ _ ?_
  unfold F_ref18_Class
  have no : ∀ H', Ext H H' → ¬ ClOk T i k → (.tuple #[.int .i64 0, .bool false] : Value) = clsV T high i k ∧ Ext H H' := fun H' he hn => ⟨by unfold clsV; rw [if_neg hn], he⟩
  have hn := h.len
  refine (rVal_spec T s H h).mono ?_
  rintro v H1 ⟨rfl, e1⟩
  refine ⟨_, rfl, iteB_not (fun c => no _ e1 (fun ho => by simp at c; exact c ho.1)) (fun c => iteB_d (fun c1 => no _ e1 (fun ho => by have := ho.2.1; omega)) (fun c1 => iteB_d (fun c2 => no _ e1 (fun ho => by have := ho.2.1; omega)) (fun c2 => ?_)))⟩
  have hv : ValidT T := by simpa using c
  obtain ⟨j, rfl⟩ := Int.eq_ofNat_of_zero_le (by omega : 0 ≤ i)
  have hj : j < T.length := by omega
  obtain ⟨a, hp, hr⟩ := (h.ext e1).at hj
  obtain ⟨p0, p1, p2, p3, p4, p5, p6, p7, p8, p9, p10⟩ := rdFn hr
  refine ⟨by omega, by omega, unSome_mk hp ⟨_, p0, _, p1, _, p2, _, p3, _, p4, _, p5, _, p6, _, p7, _, p8, _, p9, slAt T j, p10, (rbar_spec _ _ k H1 ((h.ext e1).barsAt hj)).mono ?_⟩⟩
  rintro v H2 ⟨rfl, e2⟩
  have x2 := e1.trans e2
  refine ⟨_, _, rfl, iteB_beq (fun c3 => no _ x2 (fun ho => ho.2.2 c3)) (fun c3 => ?_)⟩
  have yes : ∀ H' x, Ext H H' → classF T high j (bkI (fnAt T j).bars k) = x → (.tuple #[.int .i64 x, .bool true] : Value) = clsV T high j k ∧ Ext H H' := fun H' x he hx => ⟨by unfold clsV; rw [if_pos ⟨hv, by omega, c3⟩, Int.toNat_natCast, hx], he⟩
  refine ⟨by omega, by omega, unSome_mk hp ⟨_, e2.rd p0, _, e2.rd p1, _, e2.rd p2, _, e2.rd p3, _, e2.rd p4, _, e2.rd p5, _, e2.rd p6, _, e2.rd p7, _, e2.rd p8, _, e2.rd p9, slAt T j, e2.rd p10, (rbar_spec _ _ k H2 ((h.ext x2).barsAt hj)).mono ?_⟩⟩
  rintro v H3 ⟨rfl, e3⟩
  have x3 := x2.trans e3
  refine ⟨_, _, rfl, iteB_beq (fun c4 => yes _ _ x3 (by unfold classF; rw [if_pos c4])) (fun c4 => ?_)⟩
  have e23 := e2.trans e3
  refine ⟨by omega, by omega, unSome_mk hp ⟨_, e23.rd p0, _, e23.rd p1, _, e23.rd p2, _, e23.rd p3, _, e23.rd p4, _, e23.rd p5, _, e23.rd p6, _, e23.rd p7, _, e23.rd p8, _, e23.rd p9, slAt T j, e23.rd p10, (rbar_spec _ _ k H3 ((h.ext x3).barsAt hj)).mono ?_⟩⟩
  rintro v H4 ⟨rfl, e4⟩
  have x4 := x3.trans e4
  refine ⟨_, _, rfl, iteB_beq (fun c5 => iteB_intro (fun c6 => (above_spec T s j H4 (h.ext x4) hv hj).mono ?_) (fun c6 => yes _ _ x4 (by unfold classF; rw [if_neg c4, if_neg (by rw [c6]; simp)]))) (fun c5 => yes _ _ x4 (by unfold classF; rw [if_neg c4, if_neg (fun hh => c5 hh.1)]))⟩
  rintro v H5 ⟨rfl, rfl⟩
  exact ⟨_, rfl, iteB_intro (fun c7 => yes _ _ x4 (by unfold classF; rw [if_neg c4, if_pos ⟨c5, c6, c7⟩])) (fun c7 => yes _ _ x4 (by unfold classF; rw [if_neg c4, if_neg (by rw [c7]; simp)]))⟩

end Go.Proofs.Ytfodidlecpiohaa
