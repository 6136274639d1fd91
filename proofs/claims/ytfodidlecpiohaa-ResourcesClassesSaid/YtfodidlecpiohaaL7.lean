/-
  ResourcesClasses.
-/
import Derived.Test.YtfodidlecpiohaaL1
import Derived.Test.YtfodidlecpiohaaC1
namespace Go.Proofs.Ytfodidlecpiohaa
open Go.Eng

theorem law_classes (H : Heap) (s : Sl) (L0 : List FS) (high : Bool) (i k : Int) (h : Topo H s L0) (hl : L0.length ≤ 9223372036854775807) (hb : ∀ x ∈ L0, x.1.bars.length ≤ 9223372036854775807) :
    CallsH Try.prog n_law20_ResourcesClasses #[.slice s.p s.n s.c, .bool high, .int .i64 i, .int .i64 k] H (BoolP true H) := by
  refine F_law20_ResourcesClasses_ok _ _ _ _ ?_
  unfold F_law20_ResourcesClasses
  refine (gTopo_spec H s L0 30 (by omega) h hl hb).mono ?_
  rintro v H1 ⟨t, T, rfl, hT, hv, hT30, e1⟩
  refine ⟨t, rfl, ?_⟩
  refine loop3 2 (fun k (_ : Int) (_ : Int) H' => Ext H1 H') (.refl _) ?_
  rintro n i1 k1 H2 hn e2
  unfold F_law20_ResourcesClasses_r1
  have hnT := hT.len
  refine iteB_d (fun c1 => ?_) (fun c1 => ?_)
  · refine (Class_spec T t high i1 k1 H2 (hT.ext e2)).mono ?_
    rintro v H3 ⟨hv3, e3⟩
    have : ∃ a b, clsV T high i1 k1 = .tuple #[.int .i64 a, .bool b] := by unfold clsV; split <;> exact ⟨_, _, rfl⟩
    obtain ⟨a, b, hab⟩ := this
    refine ⟨a, b, by rw [hv3, hab], (rClass_spec T t high i1 k1 H3 ((hT.ext e2).ext e3)).mono ?_⟩
    rintro v H4 ⟨hv4, e4⟩
    refine ⟨a, b, by rw [hv4, hab], iteB_neg (by simp) (iteB_neg (by simp) ((Mod_spec _ _ H4 (by rw [i64_in (by omega)]; omega) (by rw [i64_in (by omega)]; omega)).mono ?_))⟩
    rintro v H5 ⟨rfl, rfl⟩
    refine ⟨_, rfl, (Mod_spec _ _ H5 (by omega) (by omega)).mono ?_⟩
    rintro v H6 ⟨rfl, rfl⟩
    exact ⟨_, rfl, letV_mk _ rfl (next3 (by omega) (by omega) ((e2.trans e3).trans e4))⟩
  · refine (awake_spec H2).mono ?_
    rintro v H3 ⟨rfl, e3⟩
    exact ⟨_, rfl, rfl, (e1.trans e2).trans e3⟩

end Go.Proofs.Ytfodidlecpiohaa
