/-
  What the thermal laws' arguments hold.
-/
import Derived.Test.YtiikkapdchodkaaEngO
import Derived.Test.YtiikkapdchodkaaT5
namespace Go.Proofs.Ytiikkapdchodkaa
open Go.Eng

def RAct (_ : Heap) (cs : List Value) (d : Act) : Prop := cs = encA d ∧ (Lit.int .u64 d.1).wf = true ∧ (Lit.int .u64 d.2.1).wf = true ∧ (Lit.int .u64 d.2.2).wf = true ∧ True

theorem opens_api_Actor : Opens Try.prog t_api_Actor RAct := by
  intro H enc w base spare held fuel cs x h
  have hl := opens_len Try.underlying56 h
  obtain ⟨a, ha, wa⟩ := opens_fields Try.underlying56 h 0 (o := 0) (c := 1) rfl (by kernel_rfl) (opens_int Try.underlying37)
  obtain ⟨b, hb, wb⟩ := opens_fields Try.underlying56 h 1 (o := 1) (c := 1) rfl (by kernel_rfl) (opens_int Try.underlying37)
  obtain ⟨c, hc, wc⟩ := opens_fields Try.underlying56 h 2 (o := 2) (c := 1) rfl (by kernel_rfl) (opens_int Try.underlying37)
  rw [show Try.prog.cellsOf t_api_Actor = 3 by kernel_rfl] at hl
  clear h
  match cs, hl, ha, hb, hc with
  | [u0, u1, u2], _, ha, hb, hc =>
    simp at ha hb hc
    subst ha hb hc
    exact ⟨(a, b, c), rfl, wa, wb, wc, trivial⟩

def RTrp (_ : Heap) (cs : List Value) (d : Trp) : Prop := cs = encT d ∧ (Lit.int .i64 d.1).wf = true ∧ (Lit.int .i64 d.2.1).wf = true ∧ (Lit.int .i64 d.2.2).wf = true ∧ True

theorem opens_api_Trip : Opens Try.prog t_api_Trip RTrp := by
  intro H enc w base spare held fuel cs x h
  have hl := opens_len Try.underlying24 h
  obtain ⟨a, ha, wa⟩ := opens_fields Try.underlying24 h 0 (o := 0) (c := 1) rfl (by kernel_rfl) (opens_int Try.underlying3)
  obtain ⟨b, hb, wb⟩ := opens_fields Try.underlying24 h 1 (o := 1) (c := 1) rfl (by kernel_rfl) (opens_int Try.underlying2)
  obtain ⟨c, hc, wc⟩ := opens_fields Try.underlying24 h 2 (o := 2) (c := 1) rfl (by kernel_rfl) (opens_int Try.underlying2)
  rw [show Try.prog.cellsOf t_api_Trip = 3 by kernel_rfl] at hl
  clear h
  match cs, hl, ha, hb, hc with
  | [u0, u1, u2], _, ha, hb, hc =>
    simp at ha hb hc
    subst ha hb hc
    exact ⟨(a, b, c), rfl, wa, wb, wc, trivial⟩

def RDom (_ : Heap) (cs : List Value) (d : Dom) : Prop := cs = encD d ∧ (Lit.int .i64 d.1).wf = true ∧ (Lit.int .i64 d.2).wf = true ∧ True

theorem opens_api_HeatDomain : Opens Try.prog t_api_HeatDomain RDom := by
  intro H enc w base spare held fuel cs x h
  have hl := opens_len Try.underlying68 h
  obtain ⟨a, ha, wa⟩ := opens_fields Try.underlying68 h 0 (o := 0) (c := 1) rfl (by kernel_rfl) (opens_int Try.underlying2)
  obtain ⟨b, hb, wb⟩ := opens_fields Try.underlying68 h 1 (o := 1) (c := 1) rfl (by kernel_rfl) (opens_int Try.underlying2)
  rw [show Try.prog.cellsOf t_api_HeatDomain = 2 by kernel_rfl] at hl
  clear h
  match cs, hl, ha, hb with
  | [u0, u1], _, ha, hb =>
    simp at ha hb
    subst ha hb
    exact ⟨(a, b), rfl, wa, wb, trivial⟩

def RLnk (_ : Heap) (cs : List Value) (d : Lnk) : Prop := cs = encL d ∧ (Lit.int .i64 d.1).wf = true ∧ (Lit.int .i64 d.2.1).wf = true ∧ (Lit.int .i64 d.2.2).wf = true ∧ True

theorem opens_api_HeatLink : Opens Try.prog t_api_HeatLink RLnk := by
  intro H enc w base spare held fuel cs x h
  have hl := opens_len Try.underlying110 h
  obtain ⟨a, ha, wa⟩ := opens_fields Try.underlying110 h 0 (o := 0) (c := 1) rfl (by kernel_rfl) (opens_int Try.underlying3)
  obtain ⟨b, hb, wb⟩ := opens_fields Try.underlying110 h 1 (o := 1) (c := 1) rfl (by kernel_rfl) (opens_int Try.underlying3)
  obtain ⟨c, hc, wc⟩ := opens_fields Try.underlying110 h 2 (o := 2) (c := 1) rfl (by kernel_rfl) (opens_int Try.underlying2)
  rw [show Try.prog.cellsOf t_api_HeatLink = 3 by kernel_rfl] at hl
  clear h
  match cs, hl, ha, hb, hc with
  | [u0, u1, u2], _, ha, hb, hc =>
    simp at ha hb hc
    subst ha hb hc
    exact ⟨(a, b, c), rfl, wa, wb, wc, trivial⟩

def RPt (_ : Heap) (cs : List Value) (d : Act) : Prop := cs = encA d ∧ (Lit.int .u64 d.1).wf = true ∧ (Lit.int .u64 d.2.1).wf = true ∧ (Lit.int .u64 d.2.2).wf = true ∧ True

theorem opens_api_OperatingPoint : Opens Try.prog t_api_OperatingPoint RPt := by
  intro H enc w base spare held fuel cs x h
  have hl := opens_len Try.underlying65 h
  obtain ⟨a, ha, wa⟩ := opens_fields Try.underlying65 h 0 (o := 0) (c := 1) rfl (by kernel_rfl) (opens_int Try.underlying37)
  obtain ⟨b, hb, wb⟩ := opens_fields Try.underlying65 h 1 (o := 1) (c := 1) rfl (by kernel_rfl) (opens_int Try.underlying37)
  obtain ⟨c, hc, wc⟩ := opens_fields Try.underlying65 h 2 (o := 2) (c := 1) rfl (by kernel_rfl) (opens_int Try.underlying37)
  rw [show Try.prog.cellsOf t_api_OperatingPoint = 3 by kernel_rfl] at hl
  clear h
  match cs, hl, ha, hb, hc with
  | [u0, u1, u2], _, ha, hb, hc =>
    simp at ha hb hc
    subst ha hb hc
    exact ⟨(a, b, c), rfl, wa, wb, wc, trivial⟩

theorem doms_of {H : Heap} {s : Sl} {l : List Dom} (h : SlR 2 RDom H s l) : Doms H s l := h.isS (fun _ _ hc => hc.1)
theorem lnks_of {H : Heap} {s : Sl} {l : List Lnk} (h : SlR 3 RLnk H s l) : Lnks H s l := h.isS (fun _ _ hc => hc.1)
theorem trps_of {H : Heap} {s : Sl} {l : List Trp} (h : SlR 3 RTrp H s l) : Trps H s l := h.isS (fun _ _ hc => hc.1)
theorem acts_of {H : Heap} {s : Sl} {l : List Act} (h : SlR 3 RAct H s l) : Acts H s l := h.isS (fun _ _ hc => hc.1)
theorem okA_of {H : Heap} {s : Sl} {l : List Act} (h : SlR 3 RAct H s l) : okA l := by
  intro i
  unfold rq mn mx
  by_cases hi : i < l.length
  · obtain ⟨cs, _, h1, h2, h3, _⟩ := h.all (l.getD i (0, 0, 0)) (by simp [hi])
    have := bounds_u64 h1
    have := bounds_u64 h2
    have := bounds_u64 h3
    omega
  · rw [List.getD_eq_getElem?_getD, List.getElem?_eq_none (by omega)]
    simp

theorem pts_of {H : Heap} {s : Sl} {l : List Act} (h : SlR 3 RPt H s l) : Acts H s l := h.isS (fun _ _ hc => hc.1)
theorem okP_of {H : Heap} {s : Sl} {l : List Act} (h : SlR 3 RPt H s l) : okA l := by
  intro i
  unfold rq mn mx
  by_cases hi : i < l.length
  · obtain ⟨cs, _, h1, h2, h3, _⟩ := h.all (l.getD i (0, 0, 0)) (by simp [hi])
    have := bounds_u64 h1
    have := bounds_u64 h2
    have := bounds_u64 h3
    omega
  · rw [List.getD_eq_getElem?_getD, List.getElem?_eq_none (by omega)]
    simp
theorem u64s_of {H : Heap} {s : Sl} {l : List Int} (h : SlR 1 (fun _ cs (n : Int) => cs = [.int .u64 n] ∧ (Lit.int .u64 n).wf = true) H s l) : ∀ i, 0 ≤ l.getD i 0 := by
  intro i
  by_cases hi : i < l.length
  · obtain ⟨cs, _, h1⟩ := h.all (l.getD i 0) (by simp [hi])
    exact (bounds_u64 h1).1
  · rw [List.getD_eq_getElem?_getD, List.getElem?_eq_none (by omega)]
    simp
theorem u64ss_of {H : Heap} {s : Sl} {l : List (List Int)} (h : SlR 1 (IsSl 1 (fun _ cs (n : Int) => cs = [.int .u64 n] ∧ (Lit.int .u64 n).wf = true)) H s l) : ∀ i j, 0 ≤ (l.getD i []).getD j 0 := by
  intro i j
  by_cases hi : i < l.length
  · obtain ⟨cs, s', _, h2⟩ := h.all (l.getD i []) (by simp [hi])
    exact u64s_of h2 j
  · have e : l.getD i [] = [] := by rw [List.getD_eq_getElem?_getD, List.getElem?_eq_none (by omega)]; rfl
    rw [e]
    simp

end Go.Proofs.Ytiikkapdchodkaa
