/- The maker's diagrams (exactpplmake): what Diagram builds. Conditions stand in each. -/
import Derived.Test.YteipiejlljnclaaGreatDoorRGf
set_option linter.unusedVariables false
set_option linter.unusedSimpArgs false
set_option maxRecDepth 10000
set_option maxHeartbeats 16000000
namespace Go.Proofs.YteipiejlljnclaaGreatDoor
open Go Go.AL
attribute [local irreducible] run opK opD callK
attribute [local simp] keep keepEnv keepRows keepAV keepPl keepBody keepElems keepElem keepCells lget inL normG
theorem dgs_snoc (ks : List Tr) (t : Tr) : dgs ks ++ [.agg [.sl 3 (ns (nds (enum t [])))]] = dgs (ks ++ [t]) := by simp [dgs, dg]
theorem dg_lf (v : Int) : dg (.lf v) = .agg [.sl 3 (ns [⟨-1, v, []⟩])] := by
 unfold dg
 rw [enum_of_not (by simp)]
 simp [kidsOf, nds, nd, siteOf, valOf]
theorem c_leafR (l : List Int) (a : Nat) (hl : l.length < 4611686018427387904) (ha : a ≤ l.length) : CT 39 [sp l a, .data (iv .i64 (-2)), .data (iv .i64 3)] { val := iv .i64 (-2 + (rdN l a 6).1), args := [sp l (rdN l a 6).2, .data (iv .i64 (-2)), .data (iv .i64 3)] } :=
 c_Range l a 6 (-2) 3 hl ha (by decide) (by decide) (by decide) (by decide)
theorem bnd_mono : ∀ {k m : Nat}, k ≤ m → bnd k ≤ bnd m := by
 intro k m h
 induction m with
 | zero => rw [Nat.le_zero.mp h]; exact Nat.le_refl _
 | succ m ih =>
  by_cases e : k = m + 1
  ·rw [e]; exact Nat.le_refl _
  ·have := ih (by omega); simp only [bnd]; omega
theorem bnd_small {k : Nat} (h : k < 12) : bnd k ≤ 300000 := Nat.le_trans (bnd_mono (show k ≤ 11 by omega)) (by decide)
theorem c_Diagram (l : List Int) (hl : l.length < 4611686018427387904) (z : Int) (hz : z < 10) : ∀ (k f a : Nat), (f : Int) + k = z + 1 → a ≤ l.length → CT 20 [sp l a, .data (iv .i64 (f : Nat)), .data (iv .i64 z)]
  {val := dg (dia l k f a).1, args := [sp l (dia l k f a).2, .data (iv .i64 (f : Nat)), .data (iv .i64 z)] } := by
 intro k
 induction k with
 | zero =>
  intro f a hf ha
  rw [dia]
  have hle := rdN_le l a 6 (by omega)
  have hcl := c_leafR l a hl (by omega)
  have hcd := c_ConstD (-2 + (rdN l a 6).1)
  rw [← dg_lf] at hcd
  unfold leafR
  simp only
  unfold dg at hcd ⊢
  generalize rdN l a 6 = R at *
  refine Ctr.intro ⟨Tryz.f20, _, Tryz.call20, Tryz.func20, fold_body (by rfl) (by kernel_rfl), (by simp [Tryz.ntmps20]), (by simp), (by kernel_rfl), ?_⟩
  refine wks ?_
  refine wk0 ?_
  refine callI (hcl) ?_
  refine wk0 ?_
  refine callI (hcd) ?_
  refine wk0 ?_
  refine ⟨Or.inl ?_, ?_⟩ <;> simp [memOut, lget, VC, packOut, packKeys, cellsOf, cellKeys, disjB, inL, AV.isAgg, cellOut, cellsOut, cleanL, cleanCell, hsOut]
 | succ k ih =>
  intro f a hf ha
  have e1 : ((f : Int) + 1) = ((f + 1 : Nat) : Int) := by omega
  have h5 := rdN_le l a 5 ha
  have h4 := rdN_le l (rdN l a 5).2 4 h5
  have c5 := c_N l a 5 hl ha (by decide) (by decide)
  have c4 := c_N l (rdN l a 5).2 4 hl h5 (by decide) (by decide)
  obtain ⟨D, hD⟩ : ∃ D, D = dia l (k + 1) f a := ⟨_, rfl⟩
  rw [← hD]
  rw [dia] at hD
  generalize rdN l a 5 = R5 at *
  generalize rdN l R5.2 4 = R4 at *
  refine Ctr.intro ⟨Tryz.f20, _, Tryz.call20, Tryz.func20, fold_body (by rfl) (by kernel_rfl), (by simp [Tryz.ntmps20]), (by simp), (by kernel_rfl), ?_⟩
  refine wks ?_
  refine wk0 ?_
  refine callI (c5) ?_
  refine wk0 ?_
  refine condK.dec (fun hr => ?_) (fun hr => ?_)
  ·rw [if_pos (by omega)] at hD
   have hle := rdN_le l R5.2 6 (by omega)
   have hcl := c_leafR l R5.2 hl (by omega)
   have hcd := c_ConstD (-2 + (rdN l R5.2 6).1)
   rw [← dg_lf] at hcd
   unfold leafR at hD
   generalize rdN l R5.2 6 = R at *
   subst hD
   simp only
   unfold dg at hcd ⊢
   refine wk0 ?_
   refine callI (hcl) ?_
   refine wk0 ?_
   refine callI (hcd) ?_
   refine wk0 ?_
   refine ⟨Or.inl ?_, ?_⟩ <;> simp [memOut, lget, VC, packOut, packKeys, cellsOf, cellKeys, disjB, inL, AV.isAgg, cellOut, cellsOut, cleanL, cleanCell, hsOut]
  ·rw [if_neg (by omega)] at hD
   refine wk0 ?_
   refine callI (c4) ?_
   refine wk0 ?_
   refine condK.dec (fun hr2 => ?_) (fun hr2 => ?_)
   ·rw [if_pos (by omega)] at hD
    have hi := ih (f + 1) R4.2 (by omega) h4
    rw [← hD] at hi
    unfold dg at hi ⊢
    refine wk1 @e1 ?_
    refine callI (hi) ?_
    refine wk0 ?_
    refine ⟨Or.inl ?_, ?_⟩ <;> simp [memOut, lget, VC, packOut, packKeys, cellsOf, cellKeys, disjB, inL, AV.isAgg, cellOut, cellsOut, cleanL, cleanCell, hsOut]
   ·rw [if_neg (by omega)] at hD
    obtain ⟨b, hb⟩ : ∃ b, b = R4.2 := ⟨_, rfl⟩
    have hR4 : R4 = (R4.1, b) := by rw [hb]
    rw [← hb] at hD h4 c4
    have hg : ∀ a, a ≤ l.length → (dia l k (f + 1) a).2 ≤ l.length := fun a ha => (dia_ok l k (f + 1) a (by omega) ha).2.2.1
    have ho := drs_all hg (p := fun t => Ok wid t) (fun a ha => (dia_ok l k (f + 1) a (by omega) ha).1) (wid f) b h4
    have hsz := drs_szs hg (fun a ha => (dia_ok l k (f + 1) a (by omega) ha).2.2.2) (wid f) b h4
    have hlen := drs_len (dia l k (f + 1)) (wid f) b
    have hw := wid_bd f
    have hcw := c_Width f (by omega)
    rw [← hb]
    refine wk0 ?_
    refine run_loop [0, 1, 2, 6, 7, 8] [0, 6, 7, 10000006] (α := {i : Nat // i ≤ wid f})
     (fun i => ⟨[(0, .hp ⟨0, 0⟩ 0 0), (1, iv .i64 (f : Nat)), (2, iv .i64 z), (6, .hp ⟨6, 1⟩ 0 0), (7, .hs ⟨7, 1⟩ 0 i.1), (8, iv .i64 i.1)],
      [(0, ⟨0, true, true, .cells 3 [.agg [.sl 1 (ints l), iv .i64 ((drs (dia l k (f + 1)) i.1 b).2 : Nat), iv .i64 0]]⟩), (6, ⟨1, true, true, .cells 1 [.agg [.hs ⟨10000006, 1⟩ 0 0]]⟩), (7, ⟨1, true, false, .cells 1 (dgs (drs (dia l k (f + 1)) i.1 b).1)⟩), (10000006, ⟨1, true, false, .cells 3 []⟩)]⟩)
     (fun i => wid f - i.1) ⟨0, Nat.zero_le _⟩ (by first | rfl | simp) ?_
    rintro ⟨i, hi⟩
    have hdl := drs_len (dia l k (f + 1)) i b
    have hdl2 := drs_le hg i b h4
    refine wk0 ?_
    refine callI (hcw) ?_
    refine wk0 ?_
    refine condK.dec (fun h => ?_) (fun h => ?_)
    ·have hi := ih (f + 1) (drs (dia l k (f + 1)) i b).2 (by omega) hdl2
     have e2 : (drs (dia l k (f + 1)) (i + 1) b) = ((drs (dia l k (f + 1)) i b).1 ++ [(dia l k (f + 1) (drs (dia l k (f + 1)) i b).2).1], (dia l k (f + 1) (drs (dia l k (f + 1)) i b).2).2) := rfl
     generalize drs (dia l k (f + 1)) i b = G at *
     unfold dg at hi
     refine wk1 @e1 ?_
     refine callI (hi) ?_
     have e3 : (dgs G.1).take i = dgs G.1 := List.take_of_length_le (by rw [dgs_len]; omega)
     refine wk3 @hdl @e3 @dgs_snoc ?_
     refine ⟨⟨i + 1, by omega⟩, ?_, by simp only; omega⟩
     simp only [e2]
     exact (by first | rfl | simp)
    ·have hiw : i = wid f := by omega
     subst hiw
     generalize drs (dia l k (f + 1)) (wid f) b = G at *
     have hne : G.1 ≠ [] := fun e => by rw [e] at hlen; simp at hlen; omega
     have hj := c_Join wid f G.1 hne ho (by
      have : wid f * bnd k ≤ 3 * bnd k := Nat.mul_le_mul_right _ hw.2
      have := bnd_small (k := k) (by omega)
      omega) (by omega)
     unfold dg at hj ⊢
     subst hD
     have e3 : (dgs G.1).take (wid f) = dgs G.1 := List.take_of_length_le (by rw [dgs_len]; omega)
     refine wk2 @hdl @e3 ?_
     refine callI (hj) ?_
     refine wk0 ?_
     refine ⟨Or.inl ?_, ?_⟩ <;> simp [memOut, lget, VC, packOut, packKeys, cellsOf, cellKeys, disjB, inL, AV.isAgg, cellOut, cellsOut, cleanL, cleanCell, hsOut]
end Go.Proofs.YteipiejlljnclaaGreatDoor
