/- Sorting, part 4: the partial insertion sort. Conditions stand in each. -/
import Derived.Test.YteipiejlljnclaaGreatDoorRFa
set_option linter.unusedVariables false
set_option linter.unusedSimpArgs false
set_option maxRecDepth 10000
set_option maxHeartbeats 8000000
namespace Go.Proofs.YteipiejlljnclaaGreatDoor
open Go Go.AL Go.Sort
attribute [local irreducible] run opK opD callK
attribute [local simp] keep keepEnv keepRows keepAV keepPl keepBody keepElems keepElem keepCells lget inL normG mc_keep mc_keep0
attribute [local irreducible] ec pa swp
attribute [local simp] keep keepEnv keepRows keepAV keepPl keepBody keepElems keepElem keepCells lget inL normG mc_keep mc_keep0
variable {c : Nat} {r : Value} {cf : Tm → Tm → Int}
theorem shiftDown_size {lt : Tm → Tm → Bool} : ∀ (j : Nat) (x : Array Tm), (shiftDown lt j x).size = x.size := by
 intro j
 induction j with
 | zero => intro x; rfl
 | succ j ih =>
  intro x
  rw [shiftDown]
  split
  ·rfl
  ·rw [ih, swp_size]
theorem c_partIns (H : Cmp c r cf) (d : Array Tm) (a b : Nat) (hab : a < b) (hb : b ≤ d.size) (hs : d.size < 1152921504606846976) : CT 273 (sargs d a b c r)
  {val := .sc (.bool (partialInsertionSort (ltc cf) d a b).2), args := sargs (partialInsertionSort (ltc cf) d a b).1 a b c r } := by
 have rc := H.rc
 simp only [go_sem] at rc
 refine Ctr.intro ⟨Tryz.f273, _, Tryz.call273, Tryz.func273, fold_body (by rfl) (by kernel_rfl), (by simp [Tryz.ntmps273]), (by simp), (by kernel_rfl), ?_⟩
 refine wks ?_
 refine wk0 ?_
 refine run_loop [0, 1, 2, 3, 9, 10] [0] (α := {s : Nat × Nat × Array Tm // s.1 ≤ 5 ∧ a + 1 ≤ s.2.1 ∧ s.2.1 ≤ b ∧ s.2.2.size = d.size ∧ partialIns (ltc cf) a b s.1 s.2.1 s.2.2 = partialInsertionSort (ltc cf) d a b})
  (fun s => ⟨[(0, .hs ⟨0, 0⟩ 0 d.size), (1, iv .i64 a), (2, iv .i64 b), (3, cmpv c r), (9, iv .i64 s.1.2.1), (10, iv .i64 ((5 - s.1.1 : Nat) : Int))], [(0, ⟨0, true, false, .cells 11 (pa s.1.2.2)⟩)]⟩)
  (fun s => s.1.1) ⟨(5, a + 1, d), by simp only; omega, by simp only; omega, by simp only; omega, rfl, rfl⟩ (by first | rfl | simp [tc, qc]) ?_
 rintro ⟨⟨k, i0, x⟩, hk, hi0, hi0', hx, hI⟩
 simp only at hk hi0 hi0' hx hI
 refine wk0 ?_
 refine condK.dec (fun h => ?_) (fun h => ?_)
 ·obtain ⟨k, rfl⟩ : ∃ k', k = k' + 1 := ⟨k - 1, by omega⟩
  have ek : (5 - (k + 1)) = 4 - k := by omega
  have e4 : ((5 - k : Nat) : Int) = ((4 - k : Nat) : Int) + 1 := by omega
  rw [partialIns] at hI
  simp only [ek] at *
  refine wk0 ?_
  refine run_loopE [0, 1, 2, 3, 9, 10] [0] (α := {i : Nat // i0 ≤ i ∧ i ≤ b ∧ scanSorted (ltc cf) x b i = scanSorted (ltc cf) x b i0})
   (fun i => ⟨[(0, .hs ⟨0, 0⟩ 0 d.size), (1, iv .i64 a), (2, iv .i64 b), (3, cmpv c r), (9, iv .i64 i.1), (10, iv .i64 ((4 - k : Nat) : Int))], [(0, ⟨0, true, false, .cells 11 (pa x)⟩)]⟩)
   (fun i => b - i.1) ⟨i0, Nat.le_refl _, hi0', rfl⟩
   [0, 1, 2, 3, 9, 10] [0] (β := {i : Nat // i0 ≤ i ∧ i ≤ b ∧ i = scanSorted (ltc cf) x b i0})
   (fun i => ⟨[(0, .hs ⟨0, 0⟩ 0 d.size), (1, iv .i64 a), (2, iv .i64 b), (3, cmpv c r), (9, iv .i64 i.1), (10, iv .i64 ((4 - k : Nat) : Int))], [(0, ⟨0, true, false, .cells 11 (pa x)⟩)]⟩) (by first | rfl | simp [tc, qc]) ?_ ?_
  ·rintro ⟨i, hi1, hi2, hi3⟩
   refine wk0 ?_
   refine guardK.dec (fun hg => ?_) (fun hg => ?_)
   ·refine wk5 @H.s0 @H.s1 @H.s2 @H.oc @rc ?_
    refine callI (H.ctr _ _) ?_
    refine wk0 ?_
    refine vcalm (by kernel_rfl) ?_
    refine condN (fun hc => ?_) (fun hc => ?_)
    ·refine wk0 ?_
     exact ⟨⟨i + 1, by omega, by omega, by rw [← hi3]; conv => rhs; rw [scanSorted, if_pos (by simp only [ltc, hc, decide_true, decide_false, Bool.not_false, Bool.and_true, decide_eq_true_eq]; omega)]⟩, (by first | rfl | simp [tc, qc]), by simp only; omega⟩
    ·refine wk0 ?_
     exact ⟨⟨i, hi1, hi2, by rw [← hi3, scanSorted, if_neg (by simp [ltc, hc])]⟩, (by first | rfl | simp [tc, qc])⟩
   ·refine wk0 ?_
    refine vcalm (by kernel_rfl) ?_
    refine wk0 ?_
    exact ⟨⟨i, hi1, hi2, by rw [← hi3, scanSorted, if_neg (by simp; omega)]⟩, (by first | rfl | simp [tc, qc])⟩
  ·rintro ⟨i, hi1, hi2, hi⟩
   simp only [← hi] at hI
   refine wk0 ?_
   refine condK.dec (fun h1 => ?_) (fun h1 => ?_)
   ·rw [if_pos (by omega)] at hI
    refine wk0 ?_
    rw [← hI]
    simp [memOut, lget, VC]
   ·rw [if_neg (by omega)] at hI
    refine wk0 ?_
    refine condK.dec (fun h2 => ?_) (fun h2 => ?_)
    ·rw [if_pos (by omega)] at hI
     refine wk0 ?_
     rw [← hI]
     simp [memOut, lget, VC]
    ·rw [if_neg (by omega)] at hI
     refine wk0 ?_
     refine vcalm (by kernel_rfl) ?_
     refine wk0 ?_
     refine condK.dec (fun h3 => ?_) (fun h3 => ?_)
     ·rw [if_pos (show i - a ≥ 2 by omega)] at hI
      have f2 : ((i : Int) - 1) = ((i - 1 : Nat) : Int) := by omega
      refine wk1 @f2 ?_
      refine run_loopE [0, 1, 2, 3, 9, 10, 11] [0] (α := {s : Nat × Array Tm // s.1 ≤ i - 1 ∧ s.2.size = d.size ∧ shiftDown (ltc cf) s.1 s.2 = shiftDown (ltc cf) (i - 1) (swp x i (i - 1))})
       (fun s => ⟨[(0, .hs ⟨0, 0⟩ 0 d.size), (1, iv .i64 a), (2, iv .i64 b), (3, cmpv c r), (9, iv .i64 i), (10, iv .i64 ((4 - k : Nat) : Int)), (11, iv .i64 s.1.1)], [(0, ⟨0, true, false, .cells 11 (pa s.1.2)⟩)]⟩)
       (fun s => s.1.1) ⟨(i - 1, swp x i (i - 1)), Nat.le_refl _, by simp only [swp_size]; exact hx, rfl⟩
       [0, 1, 2, 3, 9, 10] [0] (β := {y : Array Tm // y.size = d.size ∧ y = shiftDown (ltc cf) (i - 1) (swp x i (i - 1))})
       (fun y => ⟨[(0, .hs ⟨0, 0⟩ 0 d.size), (1, iv .i64 a), (2, iv .i64 b), (3, cmpv c r), (9, iv .i64 i), (10, iv .i64 ((4 - k : Nat) : Int))], [(0, ⟨0, true, false, .cells 11 (pa y.1)⟩)]⟩) (by first | rfl | simp [tc, qc]) ?_ ?_
      ·rintro ⟨⟨j, y⟩, hj1, hy, hJ⟩
       simp only at hj1 hy hJ
       refine wk0 ?_
       refine condK.dec (fun hw => ?_) (fun hw => ?_)
       ·obtain ⟨j, rfl⟩ : ∃ j', j = j' + 1 := ⟨j - 1, by omega⟩
        rw [shiftDown] at hJ
        refine wk5 @H.s0 @H.s1 @H.s2 @H.oc @rc ?_
        refine callI (H.ctr _ _) ?_
        refine wk0 ?_
        refine vcalm (by kernel_rfl) ?_
        refine condN (fun hc => ?_) (fun hc => ?_)
        ·rw [if_pos (by simp [ltc, hc])] at hJ
         refine wk0 ?_
         exact ⟨⟨y, hy, hJ⟩, (by first | rfl | simp [tc, qc])⟩
        ·rw [if_neg (by simp [ltc, hc])] at hJ
         refine wk0 ?_
         refine vcalm (by kernel_rfl) ?_
         refine wk0 ?_
         exact ⟨⟨(j, swp y (j + 1) j), by simp only; omega, by simp only [swp_size]; exact hy, hJ⟩, (by first | rfl | simp [tc, qc]), by simp only; omega⟩
       ·have : j = 0 := by omega
        subst this
        rw [shiftDown] at hJ
        refine wk0 ?_
        exact ⟨⟨y, hy, hJ⟩, (by first | rfl | simp [tc, qc])⟩
      ·rintro ⟨z, hz, hz2⟩
       rw [← hz2] at hI
       clear hx
       have hx := hz
       refine wk0 ?_
       refine condK.dec (fun hu => ?_) (fun hu => ?_)
       ·rw [if_pos (show b - i ≥ 2 by omega)] at hI
        refine wk0 ?_
        refine run_loopE [0, 1, 2, 3, 9, 10, 12] [0] (α := {s : Nat × Array Tm // i + 1 ≤ s.1 ∧ s.1 ≤ max (i + 1) b ∧ s.2.size = d.size ∧ shiftUp (ltc cf) b s.1 s.2 = shiftUp (ltc cf) b (i + 1) z})
         (fun s => ⟨[(0, .hs ⟨0, 0⟩ 0 d.size), (1, iv .i64 a), (2, iv .i64 b), (3, cmpv c r), (9, iv .i64 i), (10, iv .i64 ((4 - k : Nat) : Int)), (12, iv .i64 s.1.1)], [(0, ⟨0, true, false, .cells 11 (pa s.1.2)⟩)]⟩)
         (fun s => b - s.1.1) ⟨(i + 1, z), Nat.le_refl _, by simp only; omega, by simp only [swp_size, shiftDown_size]; exact hx, rfl⟩
         [0, 1, 2, 3, 9, 10] [0] (β := {y : Array Tm // y.size = d.size ∧ y = shiftUp (ltc cf) b (i + 1) z})
         (fun y => ⟨[(0, .hs ⟨0, 0⟩ 0 d.size), (1, iv .i64 a), (2, iv .i64 b), (3, cmpv c r), (9, iv .i64 i), (10, iv .i64 ((4 - k : Nat) : Int))], [(0, ⟨0, true, false, .cells 11 (pa y.1)⟩)]⟩) (by first | rfl | simp [tc, qc]) ?_ ?_
        ·rintro ⟨⟨j, y⟩, hj1, hj2, hy, hJ⟩
         simp only at hj1 hj2 hy hJ
         rw [shiftUp] at hJ
         refine wk0 ?_
         refine condK.dec (fun hw => ?_) (fun hw => ?_)
         ·rw [if_pos (by omega)] at hJ
          refine wk5 @H.s0 @H.s1 @H.s2 @H.oc @rc ?_
          refine callI (H.ctr _ _) ?_
          refine wk0 ?_
          refine vcalm (by kernel_rfl) ?_
          refine condN (fun hc => ?_) (fun hc => ?_)
          ·rw [if_pos (by simp [ltc, hc])] at hJ
           refine wk0 ?_
           exact ⟨⟨y, hy, hJ⟩, (by first | rfl | simp [tc, qc])⟩
          ·rw [if_neg (by simp [ltc, hc])] at hJ
           refine wk0 ?_
           refine vcalm (by kernel_rfl) ?_
           refine wk0 ?_
           exact ⟨⟨(j + 1, swp y j (j - 1)), by simp only; omega, by simp only; omega, by simp only [swp_size]; exact hy, hJ⟩, (by first | rfl | simp [tc, qc]), by simp only; omega⟩
         ·rw [if_neg (by omega)] at hJ
          refine wk0 ?_
          exact ⟨⟨y, hy, hJ⟩, (by first | rfl | simp [tc, qc])⟩
        ·rintro ⟨y, hy, hy2⟩
         rw [← hy2] at hI
         refine wk0 ?_
         exact ⟨⟨(k, i, y), by simp only; omega, by simp only; omega, by simp only; omega, hy, hI⟩, by simp only [e4]; exact (by first | rfl | simp [tc, qc]), by simp only; omega⟩
       ·rw [if_neg (show ¬ b - i ≥ 2 by omega)] at hI
        refine wk0 ?_
        exact ⟨⟨(k, i, z), by simp only; omega, by simp only; omega, by simp only; omega, by simp only [swp_size, shiftDown_size]; exact hx, hI⟩, by simp only [e4]; exact (by first | rfl | simp [tc, qc]), by simp only; omega⟩
     ·simp only [if_neg (show ¬ i - a ≥ 2 by omega)] at hI
      rw [if_pos (show b - i ≥ 2 by omega)] at hI
      refine wk0 ?_
      refine run_loopE [0, 1, 2, 3, 9, 10, 12] [0] (α := {s : Nat × Array Tm // i + 1 ≤ s.1 ∧ s.1 ≤ max (i + 1) b ∧ s.2.size = d.size ∧ shiftUp (ltc cf) b s.1 s.2 = shiftUp (ltc cf) b (i + 1) (swp x i (i - 1))})
       (fun s => ⟨[(0, .hs ⟨0, 0⟩ 0 d.size), (1, iv .i64 a), (2, iv .i64 b), (3, cmpv c r), (9, iv .i64 i), (10, iv .i64 ((4 - k : Nat) : Int)), (12, iv .i64 s.1.1)], [(0, ⟨0, true, false, .cells 11 (pa s.1.2)⟩)]⟩)
       (fun s => b - s.1.1) ⟨(i + 1, (swp x i (i - 1))), Nat.le_refl _, by simp only; omega, by simp only [swp_size, shiftDown_size]; exact hx, rfl⟩
       [0, 1, 2, 3, 9, 10] [0] (β := {y : Array Tm // y.size = d.size ∧ y = shiftUp (ltc cf) b (i + 1) (swp x i (i - 1))})
       (fun y => ⟨[(0, .hs ⟨0, 0⟩ 0 d.size), (1, iv .i64 a), (2, iv .i64 b), (3, cmpv c r), (9, iv .i64 i), (10, iv .i64 ((4 - k : Nat) : Int))], [(0, ⟨0, true, false, .cells 11 (pa y.1)⟩)]⟩) (by first | rfl | simp [tc, qc]) ?_ ?_
      ·rintro ⟨⟨j, y⟩, hj1, hj2, hy, hJ⟩
       simp only at hj1 hj2 hy hJ
       rw [shiftUp] at hJ
       refine wk0 ?_
       refine condK.dec (fun hw => ?_) (fun hw => ?_)
       ·rw [if_pos (by omega)] at hJ
        refine wk5 @H.s0 @H.s1 @H.s2 @H.oc @rc ?_
        refine callI (H.ctr _ _) ?_
        refine wk0 ?_
        refine vcalm (by kernel_rfl) ?_
        refine condN (fun hc => ?_) (fun hc => ?_)
        ·rw [if_pos (by simp [ltc, hc])] at hJ
         refine wk0 ?_
         exact ⟨⟨y, hy, hJ⟩, (by first | rfl | simp [tc, qc])⟩
        ·rw [if_neg (by simp [ltc, hc])] at hJ
         refine wk0 ?_
         refine vcalm (by kernel_rfl) ?_
         refine wk0 ?_
         exact ⟨⟨(j + 1, swp y j (j - 1)), by simp only; omega, by simp only; omega, by simp only [swp_size]; exact hy, hJ⟩, (by first | rfl | simp [tc, qc]), by simp only; omega⟩
       ·rw [if_neg (by omega)] at hJ
        refine wk0 ?_
        exact ⟨⟨y, hy, hJ⟩, (by first | rfl | simp [tc, qc])⟩
      ·rintro ⟨y, hy, hy2⟩
       rw [← hy2] at hI
       refine wk0 ?_
       exact ⟨⟨(k, i, y), by simp only; omega, by simp only; omega, by simp only; omega, hy, hI⟩, by simp only [e4]; exact (by first | rfl | simp [tc, qc]), by simp only; omega⟩
 ·have hk0 : k = 0 := by omega
  subst hk0
  rw [partialIns] at hI
  refine wk0 ?_
  rw [← hI]
  simp [memOut, lget, VC]
end Go.Proofs.YteipiejlljnclaaGreatDoor
