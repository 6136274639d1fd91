/-
 The generator's topologies.
-/
import Derived.Test.YtnhhncjflnlfaaaGreatG3
namespace Go.Proofs.YtnhhncjflnlfaaaGreat
open Go.Eng

def TyB (H : Heap) (p : Option Addr) (e : TypeId) : Prop := ∀ a, p = some a -> ∃ c f, H[a.block]? = some (.cells c e f)

theorem own_ty {lo : Nat} {e : TypeId} {sz : Nat} {H : Heap} {s : Sl} {xs : List Value} (h : Own lo e sz H s xs) : TyB H s.p e := by
 intro a ha
 rcases h.cases.2 with ⟨h1, _⟩ | ⟨g, cur, h1, h2, h3, _⟩
 ·rw [h1] at ha; cases ha
 ·rw [h1] at ha
  cases ha
  exact ⟨_, _, h3⟩

theorem ty_ne {H : Heap} {p q : Option Addr} {e e' : TypeId} (h : TyB H p e) (h' : TyB H q e') (hne : e ≠ e') : ∀ a, p = some a -> a.block ∉ blkOf q := by
 intro a ha
 cases hq : q with
 | none => simp [blkOf]
 | some b =>
  simp only [blkOf, List.mem_singleton]
  intro hab
  obtain ⟨c, f, h1⟩ := h a ha
  obtain ⟨c', f', h2⟩ := h' b hq
  rw [hab, h2] at h1
  simp only [Option.some.injEq, Obj.cells.injEq] at h1
  exact hne h1.2.1.symm

theorem TyB.lt {H : Heap} {p : Option Addr} {e : TypeId} (h : TyB H p e) : ∀ a, p = some a -> a.block < H.size := fun a ha => by
 obtain ⟨c, f, h1⟩ := h a ha
 exact get_lt h1
theorem TyB.mods {H H' : Heap} {p : Option Addr} {e : TypeId} {S : List Nat} (h : TyB H p e) (m : Mods S H H') (hn : ∀ a, p = some a -> a.block ∉ S) : TyB H' p e := fun a ha => by
 have hl := h.lt a ha
 obtain ⟨c, f, h1⟩ := h a ha
 exact ⟨c, f, by rw [m.get _ hl (hn a ha)]; exact h1⟩

def GT (H : Heap) (T : List FS) : Prop := ∀ x ∈ T, Bars H x.2 x.1.bars /\ TyB H x.2.p t_101
theorem GT.mods {H H' : Heap} {T : List FS} {S : List Nat} (h : GT H T) (m : Mods S H H') (hn : ∀ p, TyB H p t_101 -> ∀ a, p = some a -> a.block ∉ S) : GT H' T := fun x hx => by
 obtain ⟨h1, h2⟩ := h x hx
 exact ⟨h1.mods m (hn _ h2), h2.mods m (hn _ h2)⟩
theorem GT.ext {H H' : Heap} {T : List FS} (h : GT H T) (e : Ext H H') : GT H' T := h.mods (S := []) e.mods (fun _ _ _ _ => by simp)

theorem fnAt_append {T : List FS} {x : FS} {i : Nat} (h : i < T.length) : fnAt (T ++ [x]) i = fnAt T i := by
 unfold fnAt; simp [List.getD, List.getElem?_append_left h]
theorem fnAt_last {T : List FS} {x : FS} : fnAt (T ++ [x]) T.length = x.1 := by
 unfold fnAt; simp [List.getD]

theorem OkAt.append {T : List FS} {x : FS} {i : Nat} (h : OkAt T i) (hi : i < T.length) : OkAt (T ++ [x]) i := by
 have hp := h.pa
 refine ⟨?_, ?_, ?_, ?_⟩
 ·rw [fnAt_append hi]; exact h.va
 ·rw [fnAt_append hi]; exact h.pa
 ·rw [fnAt_append hi]
  intro h0
  rw [fnAt_append (by omega)]
  exact h.br h0
 ·intro k hk
  rw [fnAt_append hi, fnAt_append (by omega)]
  exact h.un k hk

structure GOk (T : List FS) (G : Fn) : Prop where
 pa : G.parent = -1 \/ (0 <= G.parent /\ G.parent < T.length /\ (fnAt T G.parent.toNat).bridge = true)
 sl : 0 <= G.slot /\ G.slot <= 7
 ve : 1 <= G.vendor /\ G.vendor <= 9
 de : 0 <= G.device /\ G.device <= 8
 pi : 0 <= G.pin /\ G.pin <= 4
 vc : G.vec = 0 \/ G.vec = 1 \/ G.vec = 2 \/ G.vec = 4 \/ G.vec = 16 \/ G.vec = 32

theorem GOk.valid {T : List FS} {G : Fn} (h : GOk T G) (sp : 0 <= G.spare /\ G.spare <= 3) (sh : 0 < G.spare -> G.bridge = true /\ G.hot = true) (nb : G.bridge = false -> G.pref = false /\ G.hot = false) (bl : G.bars.length <= regs G.bridge) (ba : BarsOk G.bars) : ValidF G := by
 have h1 := h.sl
 have h2 := h.ve
 have h3 := h.de
 have h4 := h.pi
 have h5 := h.vc
 refine ⟨by omega, by omega, by omega, by omega, by omega, ?_, by omega, sh, nb, bl, ba⟩
 rcases h5 with e | e | e | e | e | e <;> rw [e] <;> decide +kernel

theorem pairs_key : PairKey Tryz.prog t_109 := pairKey_of (by kernel_rfl)

structure GS (H0 : Heap) (most : Nat) (H : Heap) (out bridges : Sl) (T : List FS) (Bs : List Int) : Prop where
 ext : Ext H0 H
 own : Own H0.size t_58 11 H out (T.flatMap encF)
 n : out.n = T.length
 gt : GT H T
 ok : ∀ i, i < T.length -> OkAt T i
 most : T.length <= most
 set : PSet H H0.size (tab T.length (fun i => ((fnAt T i).parent, (fnAt T i).slot)))
 bown : Own H0.size t_3 1 H bridges (Bs.flatMap (encI .i64))
 bn : bridges.n = Bs.length
 b0 : 0 < Bs.length
 bl : Bs.length <= T.length + 1
 bb : ∀ p ∈ Bs, p = -1 \/ (0 <= p /\ p < T.length /\ (fnAt T p.toNat).bridge = true)

theorem ps_nty {H : Heap} {r : Nat} {ks : List (Int × Int)} (h : PSet H r ks) {p : Option Addr} {e : TypeId} (hp : TyB H p e) : ∀ a, p = some a -> a.block ≠ r := by
 intro a ha hr
 obtain ⟨c, f, h1⟩ := hp a ha
 obtain ⟨es, cl, h2, _⟩ := h
 rw [hr, h2] at h1
 cases h1

theorem GS.lo {H0 H : Heap} {most : Nat} {out bridges : Sl} {T : List FS} {Bs : List Int} (h : GS H0 most H out bridges T Bs) : H0.size < H.size := h.set.lt

theorem GS.ext' {H0 H H' : Heap} {most : Nat} {out bridges : Sl} {T : List FS} {Bs : List Int} (h : GS H0 most H out bridges T Bs) (e : Ext H H') : GS H0 most H' out bridges T Bs :=
 ⟨h.ext.trans e, h.own.ext e, h.n, h.gt.ext e, h.ok, h.most, h.set.ext e, h.bown.ext e, h.bn, h.b0, h.bl, h.bb⟩

end Go.Proofs.YtnhhncjflnlfaaaGreat
