/- Sorting, part 3: partitions. Conditions stand in each. -/
import Derived.Test.YteipiejlljnclaaGreatDoorRFa
set_option linter.unusedVariables false
set_option linter.unusedSimpArgs false
set_option maxRecDepth 10000
set_option maxHeartbeats 8000000
namespace Go.Proofs.YteipiejlljnclaaGreatDoor
open Go Go.AL Go.Sort
attribute [local irreducible] run opK opD callK
attribute [local simp] keep keepEnv keepRows keepAV keepPl keepBody keepElems keepElem keepCells lget inL normG mc_keep mc_keep0
attribute [local irreducible] ec pa swp
attribute [local simp] keep keepEnv keepRows keepAV keepPl keepBody keepElems keepElem keepCells lget inL normG mc_keep mc_keep0
variable {c : Nat} {r : Value} {cf : Tm → Tm → Int}
@[go_sem] abbrev pargs (d : Array Tm) (a b p : Nat) (c : Nat) (r : Value) : List PA := [sdat d, .data (iv .i64 a), .data (iv .i64 b), .data (iv .i64 p), .data (cmpv c r)]
theorem c_partEq (H : Cmp c r cf) (d : Array Tm) (a b p : Nat) (hab : a < b) (hb : b ≤ d.size) (hp : p < d.size) (hs : d.size < 1152921504606846976) : CT 274 (pargs d a b p c r)
  {val := iv .i64 (partitionEqual (ltc cf) d a b p).1, args := pargs (partitionEqual (ltc cf) d a b p).2 a b p c r } := by
 have rc := H.rc
 simp only [go_sem] at rc
 have f1 : ((b : Int) - 1) = ((b - 1 : Nat) : Int) := by omega
 refine Ctr.intro ⟨Tryz.f274, _, Tryz.call274, Tryz.func274, fold_body (by rfl) (by kernel_rfl), (by simp [Tryz.ntmps274]), (by simp), (by kernel_rfl), ?_⟩
 refine wks ?_
 refine wk0 ?_
 refine vcalm (by kernel_rfl) ?_
 refine wk1 @f1 ?_
 refine run_loop [0, 1, 4, 11, 12] [0] (α := {s : Nat × Nat × Array Tm // s.2.2.size = d.size ∧ 1 ≤ s.1 ∧ s.1 ≤ b ∧ s.2.1 ≤ b - 1 ∧ partEqLoop (ltc cf) a s.1 s.2.1 s.2.2 = partitionEqual (ltc cf) d a b p})
  (fun s => ⟨[(0, .hs ⟨0, 0⟩ 0 d.size), (1, iv .i64 a), (4, cmpv c r), (11, iv .i64 s.1.1), (12, iv .i64 s.1.2.1)], [(0, ⟨0, true, false, .cells 11 (pa s.1.2.2)⟩)]⟩)
  (fun s => s.1.2.1 + 1 - s.1.1) ⟨(a + 1, b - 1, swp d a p), by simp only [swp_size], by simp only; omega, by simp only; omega, by simp only; omega, rfl⟩ (by first | rfl | simp [tc, qc]) ?_
 rintro ⟨⟨i0, j0, x⟩, hx, hi0, hi0', hj0, hI⟩
 simp only at hx hi0 hi0' hj0 hI
 refine wk0 ?_
 refine run_loopE [0, 1, 4, 11, 12] [0] (α := {i : Nat // i0 ≤ i ∧ i ≤ max i0 (j0 + 1) ∧ scanUp (fun t => !ltc cf x[a]! t) x j0 i = scanUp (fun t => !ltc cf x[a]! t) x j0 i0})
  (fun i => ⟨[(0, .hs ⟨0, 0⟩ 0 d.size), (1, iv .i64 a), (4, cmpv c r), (11, iv .i64 i.1), (12, iv .i64 (j0 : Nat))], [(0, ⟨0, true, false, .cells 11 (pa x)⟩)]⟩)
  (fun i => j0 + 1 - i.1) ⟨i0, Nat.le_refl _, by omega, rfl⟩
  [0, 1, 4, 11, 12] [0] (β := {i : Nat // i0 ≤ i ∧ i ≤ max i0 (j0 + 1) ∧ i = scanUp (fun t => !ltc cf x[a]! t) x j0 i0})
  (fun i => ⟨[(0, .hs ⟨0, 0⟩ 0 d.size), (1, iv .i64 a), (4, cmpv c r), (11, iv .i64 i.1), (12, iv .i64 (j0 : Nat))], [(0, ⟨0, true, false, .cells 11 (pa x)⟩)]⟩) (by first | rfl | simp [tc, qc]) ?_ ?_
 ·rintro ⟨i, hi1, hi2, hi3⟩
  refine wk0 ?_
  refine guardK.dec (fun hg => ?_) (fun hg => ?_)
  ·refine wk5 @H.s0 @H.s1 @H.s2 @H.oc @rc ?_
   refine callI (H.ctr _ _) ?_
   refine wk0 ?_
   refine vcalm (by kernel_rfl) ?_
   refine condN (fun hc => ?_) (fun hc => ?_)
   ·refine wk0 ?_
    exact ⟨⟨i + 1, by omega, by omega, by rw [← hi3]; conv => rhs; rw [scanUp, if_pos (by simp only [ltc, hc, decide_true, decide_false, Bool.not_false, Bool.and_true, decide_eq_true_eq]; omega)]⟩, (by first | rfl | simp [tc, qc]), by simp only; omega⟩
   ·refine wk0 ?_
    exact ⟨⟨i, hi1, hi2, by rw [← hi3, scanUp, if_neg (by simp [ltc, hc])]⟩, (by first | rfl | simp [tc, qc])⟩
  ·refine wk0 ?_
   refine vcalm (by kernel_rfl) ?_
   refine wk0 ?_
   exact ⟨⟨i, hi1, hi2, by rw [← hi3, scanUp, if_neg (by simp; omega)]⟩, (by first | rfl | simp [tc, qc])⟩
 rintro ⟨i, hi1, hi2, hi⟩
 refine wk0 ?_
 refine run_loopE [0, 1, 4, 11, 12] [0] (α := {j : Nat // j ≤ j0 ∧ scanDown (fun t => ltc cf x[a]! t) x i j = scanDown (fun t => ltc cf x[a]! t) x i j0})
  (fun j => ⟨[(0, .hs ⟨0, 0⟩ 0 d.size), (1, iv .i64 a), (4, cmpv c r), (11, iv .i64 (i : Nat)), (12, iv .i64 j.1)], [(0, ⟨0, true, false, .cells 11 (pa x)⟩)]⟩)
  (fun j => j.1) ⟨j0, Nat.le_refl _, rfl⟩
  [0, 1, 4, 11, 12] [0] (β := {j : Nat // j ≤ j0 ∧ j = scanDown (fun t => ltc cf x[a]! t) x i j0})
  (fun j => ⟨[(0, .hs ⟨0, 0⟩ 0 d.size), (1, iv .i64 a), (4, cmpv c r), (11, iv .i64 (i : Nat)), (12, iv .i64 j.1)], [(0, ⟨0, true, false, .cells 11 (pa x)⟩)]⟩) (by first | rfl | simp [tc, qc]) ?_ ?_
 ·rintro ⟨j, hj1, hj2⟩
  refine wk0 ?_
  refine guardK.dec (fun hg => ?_) (fun hg => ?_)
  ·obtain ⟨j, rfl⟩ : ∃ j', j = j' + 1 := ⟨j - 1, by omega⟩
   refine wk5 @H.s0 @H.s1 @H.s2 @H.oc @rc ?_
   refine callI (H.ctr _ _) ?_
   refine wk0 ?_
   refine vcalm (by kernel_rfl) ?_
   refine condK.dec (fun hc => ?_) (fun hc => ?_)
   ·refine wk0 ?_
    exact ⟨⟨j, by omega, by rw [← hj2]; conv => rhs; rw [scanDown, if_pos (by simp only [ltc, hc, decide_true, decide_false, Bool.not_false, Bool.and_true, decide_eq_true_eq]; omega)]⟩, (by first | rfl | simp [tc, qc]), by simp only; omega⟩
   ·refine wk0 ?_
    exact ⟨⟨j + 1, hj1, by rw [← hj2, scanDown, if_neg (by simp [ltc, hc])]⟩, (by first | rfl | simp [tc, qc])⟩
  ·refine wk0 ?_
   refine vcalm (by kernel_rfl) ?_
   refine wk0 ?_
   refine ⟨⟨j, hj1, ?_⟩, (by first | rfl | simp [tc, qc])⟩
   rw [← hj2]
   cases j with
   | zero => rw [scanDown]
   | succ j => rw [scanDown, if_neg (by simp; omega)]
 rintro ⟨j, hj1, hj⟩
 rw [partEqLoop, ← hi] at hI
 simp only [← hj] at hI
 refine wk0 ?_
 refine condK.dec (fun hd => ?_) (fun hd => ?_)
 ·rw [if_pos (by omega)] at hI
  refine wk0 ?_
  rw [← hI]
  simp [memOut, lget, VC]
 ·rw [if_neg (by omega), dif_pos (by omega)] at hI
  have f2 : ((j : Int) - 1) = ((j - 1 : Nat) : Int) := by omega
  refine wk0 ?_
  refine vcalm (by kernel_rfl) ?_
  refine wk1 @f2 ?_
  exact ⟨⟨(i + 1, j - 1, swp x i j), by simp only [swp_size]; exact hx, by simp only; omega, by simp only; omega, by simp only; omega, hI⟩, (by first | rfl | simp [tc, qc]), by simp only; omega⟩
theorem c_part (H : Cmp c r cf) (d : Array Tm) (a b p : Nat) (hab : a < b) (hb : b ≤ d.size) (hp : p < d.size) (hs : d.size < 1152921504606846976) : CT 275 (pargs d a b p c r)
  {val := .tup [iv .i64 (partition (ltc cf) d a b p).1, .sc (.bool (partition (ltc cf) d a b p).2.1)], args := pargs (partition (ltc cf) d a b p).2.2 a b p c r } := by
 have rc := H.rc
 simp only [go_sem] at rc
 have f1 : ((b : Int) - 1) = ((b - 1 : Nat) : Int) := by omega
 refine Ctr.intro ⟨Tryz.f275, _, Tryz.call275, Tryz.func275, fold_body (by rfl) (by kernel_rfl), (by simp [Tryz.ntmps275]), (by simp), (by kernel_rfl), ?_⟩
 refine wks ?_
 refine wk0 ?_
 refine vcalm (by kernel_rfl) ?_
 refine wk1 @f1 ?_
 have hP : (if scanUp (fun t => ltc cf t (swp d a p)[a]!) (swp d a p) (b - 1) (a + 1) > scanDown (fun t => !ltc cf t (swp d a p)[a]!) (swp d a p) (scanUp (fun t => ltc cf t (swp d a p)[a]!) (swp d a p) (b - 1) (a + 1)) (b - 1) then
   (scanDown (fun t => !ltc cf t (swp d a p)[a]!) (swp d a p) (scanUp (fun t => ltc cf t (swp d a p)[a]!) (swp d a p) (b - 1) (a + 1)) (b - 1), true, swp (swp d a p) (scanDown (fun t => !ltc cf t (swp d a p)[a]!) (swp d a p) (scanUp (fun t => ltc cf t (swp d a p)[a]!) (swp d a p) (b - 1) (a + 1)) (b - 1)) a)
   else ((partLoop (ltc cf) a (scanUp (fun t => ltc cf t (swp d a p)[a]!) (swp d a p) (b - 1) (a + 1) + 1) (scanDown (fun t => !ltc cf t (swp d a p)[a]!) (swp d a p) (scanUp (fun t => ltc cf t (swp d a p)[a]!) (swp d a p) (b - 1) (a + 1)) (b - 1) - 1) (swp (swp d a p) (scanUp (fun t => ltc cf t (swp d a p)[a]!) (swp d a p) (b - 1) (a + 1)) (scanDown (fun t => !ltc cf t (swp d a p)[a]!) (swp d a p) (scanUp (fun t => ltc cf t (swp d a p)[a]!) (swp d a p) (b - 1) (a + 1)) (b - 1)))).1, false,
    swp (partLoop (ltc cf) a (scanUp (fun t => ltc cf t (swp d a p)[a]!) (swp d a p) (b - 1) (a + 1) + 1) (scanDown (fun t => !ltc cf t (swp d a p)[a]!) (swp d a p) (scanUp (fun t => ltc cf t (swp d a p)[a]!) (swp d a p) (b - 1) (a + 1)) (b - 1) - 1) (swp (swp d a p) (scanUp (fun t => ltc cf t (swp d a p)[a]!) (swp d a p) (b - 1) (a + 1)) (scanDown (fun t => !ltc cf t (swp d a p)[a]!) (swp d a p) (scanUp (fun t => ltc cf t (swp d a p)[a]!) (swp d a p) (b - 1) (a + 1)) (b - 1)))).2
     (partLoop (ltc cf) a (scanUp (fun t => ltc cf t (swp d a p)[a]!) (swp d a p) (b - 1) (a + 1) + 1) (scanDown (fun t => !ltc cf t (swp d a p)[a]!) (swp d a p) (scanUp (fun t => ltc cf t (swp d a p)[a]!) (swp d a p) (b - 1) (a + 1)) (b - 1) - 1) (swp (swp d a p) (scanUp (fun t => ltc cf t (swp d a p)[a]!) (swp d a p) (b - 1) (a + 1)) (scanDown (fun t => !ltc cf t (swp d a p)[a]!) (swp d a p) (scanUp (fun t => ltc cf t (swp d a p)[a]!) (swp d a p) (b - 1) (a + 1)) (b - 1)))).1 a)) = partition (ltc cf) d a b p := rfl
 obtain ⟨y, hy⟩ : ∃ y, y = swp d a p := ⟨_, rfl⟩
 have hys : y.size = d.size := by rw [hy, swp_size]
 rw [← hy] at hP ⊢
 refine run_loopE [0, 1, 4, 12, 13] [0] (α := {i : Nat // (a + 1) ≤ i ∧ i ≤ max (a + 1) ((b - 1) + 1) ∧ scanUp (fun t => ltc cf t y[a]!) y (b - 1) i = scanUp (fun t => ltc cf t y[a]!) y (b - 1) (a + 1)})
  (fun i => ⟨[(0, .hs ⟨0, 0⟩ 0 d.size), (1, iv .i64 a), (4, cmpv c r), (12, iv .i64 i.1), (13, iv .i64 ((b - 1) : Nat))], [(0, ⟨0, true, false, .cells 11 (pa y)⟩)]⟩)
  (fun i => (b - 1) + 1 - i.1) ⟨(a + 1), Nat.le_refl _, by omega, rfl⟩
  [0, 1, 4, 12, 13] [0] (β := {i : Nat // (a + 1) ≤ i ∧ i ≤ max (a + 1) ((b - 1) + 1) ∧ i = scanUp (fun t => ltc cf t y[a]!) y (b - 1) (a + 1)})
  (fun i => ⟨[(0, .hs ⟨0, 0⟩ 0 d.size), (1, iv .i64 a), (4, cmpv c r), (12, iv .i64 i.1), (13, iv .i64 ((b - 1) : Nat))], [(0, ⟨0, true, false, .cells 11 (pa y)⟩)]⟩) (by first | rfl | simp [tc, qc]) ?_ ?_
 ·rintro ⟨i, hi1, hi2, hi3⟩
  refine wk0 ?_
  refine guardK.dec (fun hg => ?_) (fun hg => ?_)
  ·refine wk5 @H.s0 @H.s1 @H.s2 @H.oc @rc ?_
   refine callI (H.ctr _ _) ?_
   refine wk0 ?_
   refine vcalm (by kernel_rfl) ?_
   refine condK.dec (fun hc => ?_) (fun hc => ?_)
   ·refine wk0 ?_
    exact ⟨⟨i + 1, by omega, by omega, by rw [← hi3]; conv => rhs; rw [scanUp, if_pos (by simp only [ltc, hc, decide_true, decide_false, Bool.not_false, Bool.and_true, decide_eq_true_eq]; omega)]⟩, (by first | rfl | simp [tc, qc]), by simp only; omega⟩
   ·refine wk0 ?_
    exact ⟨⟨i, hi1, hi2, by rw [← hi3, scanUp, if_neg (by simp [ltc, hc])]⟩, (by first | rfl | simp [tc, qc])⟩
  ·refine wk0 ?_
   refine vcalm (by kernel_rfl) ?_
   refine wk0 ?_
   exact ⟨⟨i, hi1, hi2, by rw [← hi3, scanUp, if_neg (by simp; omega)]⟩, (by first | rfl | simp [tc, qc])⟩
 rintro ⟨i, hi1, hi2, hi⟩
 refine wk0 ?_
 rw [← hi] at hP
 refine run_loopE [0, 1, 4, 12, 13] [0] (α := {j : Nat // j ≤ (b - 1) ∧ scanDown (fun t => !ltc cf t y[a]!) y i j = scanDown (fun t => !ltc cf t y[a]!) y i (b - 1)})
  (fun j => ⟨[(0, .hs ⟨0, 0⟩ 0 d.size), (1, iv .i64 a), (4, cmpv c r), (12, iv .i64 (i : Nat)), (13, iv .i64 j.1)], [(0, ⟨0, true, false, .cells 11 (pa y)⟩)]⟩)
  (fun j => j.1) ⟨(b - 1), Nat.le_refl _, rfl⟩
  [0, 1, 4, 12, 13] [0] (β := {j : Nat // j ≤ (b - 1) ∧ j = scanDown (fun t => !ltc cf t y[a]!) y i (b - 1)})
  (fun j => ⟨[(0, .hs ⟨0, 0⟩ 0 d.size), (1, iv .i64 a), (4, cmpv c r), (12, iv .i64 (i : Nat)), (13, iv .i64 j.1)], [(0, ⟨0, true, false, .cells 11 (pa y)⟩)]⟩) (by first | rfl | simp [tc, qc]) ?_ ?_
 ·rintro ⟨j, hj1, hj2⟩
  refine wk0 ?_
  refine guardK.dec (fun hg => ?_) (fun hg => ?_)
  ·obtain ⟨j, rfl⟩ : ∃ j', j = j' + 1 := ⟨j - 1, by omega⟩
   refine wk5 @H.s0 @H.s1 @H.s2 @H.oc @rc ?_
   refine callI (H.ctr _ _) ?_
   refine wk0 ?_
   refine vcalm (by kernel_rfl) ?_
   refine condN (fun hc => ?_) (fun hc => ?_)
   ·refine wk0 ?_
    exact ⟨⟨j, by omega, by rw [← hj2]; conv => rhs; rw [scanDown, if_pos (by simp only [ltc, hc, decide_true, decide_false, Bool.not_false, Bool.and_true, decide_eq_true_eq]; omega)]⟩, (by first | rfl | simp [tc, qc]), by simp only; omega⟩
   ·refine wk0 ?_
    exact ⟨⟨j + 1, hj1, by rw [← hj2, scanDown, if_neg (by simp [ltc, hc])]⟩, (by first | rfl | simp [tc, qc])⟩
  ·refine wk0 ?_
   refine vcalm (by kernel_rfl) ?_
   refine wk0 ?_
   refine ⟨⟨j, hj1, ?_⟩, (by first | rfl | simp [tc, qc])⟩
   rw [← hj2]
   cases j with
   | zero => rw [scanDown]
   | succ j => rw [scanDown, if_neg (by simp; omega)]
 rintro ⟨j, hj1, hj⟩
 rw [← hj] at hP
 refine wk0 ?_
 refine condK.dec (fun hd => ?_) (fun hd => ?_)
 ·rw [if_pos (by omega)] at hP
  refine wk0 ?_
  refine vcalm (by kernel_rfl) ?_
  refine wk0 ?_
  rw [← hP]
  simp [memOut, lget, VC]
 ·rw [if_neg (by omega)] at hP
  have f2 : ((j : Int) - 1) = ((j - 1 : Nat) : Int) := by omega
  refine wk0 ?_
  refine vcalm (by kernel_rfl) ?_
  refine wk1 @f2 ?_
  refine run_loop [0, 1, 4, 12, 13] [0] (α := {s : Nat × Nat × Array Tm // s.2.2.size = d.size ∧ 1 ≤ s.1 ∧ s.1 ≤ b ∧ s.2.1 ≤ b - 1 ∧ partLoop (ltc cf) a s.1 s.2.1 s.2.2 = partLoop (ltc cf) a (i + 1) (j - 1) (swp y i j)})
   (fun s => ⟨[(0, .hs ⟨0, 0⟩ 0 d.size), (1, iv .i64 a), (4, cmpv c r), (12, iv .i64 s.1.1), (13, iv .i64 s.1.2.1)], [(0, ⟨0, true, false, .cells 11 (pa s.1.2.2)⟩)]⟩)
   (fun s => s.1.2.1 + 1 - s.1.1) ⟨(i + 1, j - 1, swp y i j), by simp only [swp_size]; exact hys, by simp only; omega, by simp only; omega, by simp only; omega, rfl⟩ (by first | rfl | simp [tc, qc]) ?_
  clear hi hj hi1 hi2 f2 hd
  generalize partLoop (ltc cf) a (i + 1) (j - 1) (swp y i j) = R at *
  rintro ⟨⟨i0, j0, x⟩, hx, hi0, hi0', hj0, hI⟩
  simp only at hx hi0 hi0' hj0 hI
  refine wk0 ?_
  refine run_loopE [0, 1, 4, 12, 13] [0] (α := {i : Nat // i0 ≤ i ∧ i ≤ max i0 (j0 + 1) ∧ scanUp (fun t => ltc cf t x[a]!) x j0 i = scanUp (fun t => ltc cf t x[a]!) x j0 i0})
   (fun i => ⟨[(0, .hs ⟨0, 0⟩ 0 d.size), (1, iv .i64 a), (4, cmpv c r), (12, iv .i64 i.1), (13, iv .i64 (j0 : Nat))], [(0, ⟨0, true, false, .cells 11 (pa x)⟩)]⟩)
   (fun i => j0 + 1 - i.1) ⟨i0, Nat.le_refl _, by omega, rfl⟩
   [0, 1, 4, 12, 13] [0] (β := {i : Nat // i0 ≤ i ∧ i ≤ max i0 (j0 + 1) ∧ i = scanUp (fun t => ltc cf t x[a]!) x j0 i0})
   (fun i => ⟨[(0, .hs ⟨0, 0⟩ 0 d.size), (1, iv .i64 a), (4, cmpv c r), (12, iv .i64 i.1), (13, iv .i64 (j0 : Nat))], [(0, ⟨0, true, false, .cells 11 (pa x)⟩)]⟩) (by first | rfl | simp [tc, qc]) ?_ ?_
  ·rintro ⟨i, hi1, hi2, hi3⟩
   refine wk0 ?_
   refine guardK.dec (fun hg => ?_) (fun hg => ?_)
   ·refine wk5 @H.s0 @H.s1 @H.s2 @H.oc @rc ?_
    refine callI (H.ctr _ _) ?_
    refine wk0 ?_
    refine vcalm (by kernel_rfl) ?_
    refine condK.dec (fun hc => ?_) (fun hc => ?_)
    ·refine wk0 ?_
     exact ⟨⟨i + 1, by omega, by omega, by rw [← hi3]; conv => rhs; rw [scanUp, if_pos (by simp only [ltc, hc, decide_true, decide_false, Bool.not_false, Bool.and_true, decide_eq_true_eq]; omega)]⟩, (by first | rfl | simp [tc, qc]), by simp only; omega⟩
    ·refine wk0 ?_
     exact ⟨⟨i, hi1, hi2, by rw [← hi3, scanUp, if_neg (by simp [ltc, hc])]⟩, (by first | rfl | simp [tc, qc])⟩
   ·refine wk0 ?_
    refine vcalm (by kernel_rfl) ?_
    refine wk0 ?_
    exact ⟨⟨i, hi1, hi2, by rw [← hi3, scanUp, if_neg (by simp; omega)]⟩, (by first | rfl | simp [tc, qc])⟩
  rintro ⟨i, hi1, hi2, hi⟩
  refine wk0 ?_
  refine run_loopE [0, 1, 4, 12, 13] [0] (α := {j : Nat // j ≤ j0 ∧ scanDown (fun t => !ltc cf t x[a]!) x i j = scanDown (fun t => !ltc cf t x[a]!) x i j0})
   (fun j => ⟨[(0, .hs ⟨0, 0⟩ 0 d.size), (1, iv .i64 a), (4, cmpv c r), (12, iv .i64 (i : Nat)), (13, iv .i64 j.1)], [(0, ⟨0, true, false, .cells 11 (pa x)⟩)]⟩)
   (fun j => j.1) ⟨j0, Nat.le_refl _, rfl⟩
   [0, 1, 4, 12, 13] [0] (β := {j : Nat // j ≤ j0 ∧ j = scanDown (fun t => !ltc cf t x[a]!) x i j0})
   (fun j => ⟨[(0, .hs ⟨0, 0⟩ 0 d.size), (1, iv .i64 a), (4, cmpv c r), (12, iv .i64 (i : Nat)), (13, iv .i64 j.1)], [(0, ⟨0, true, false, .cells 11 (pa x)⟩)]⟩) (by first | rfl | simp [tc, qc]) ?_ ?_
  ·rintro ⟨j, hj1, hj2⟩
   refine wk0 ?_
   refine guardK.dec (fun hg => ?_) (fun hg => ?_)
   ·obtain ⟨j, rfl⟩ : ∃ j', j = j' + 1 := ⟨j - 1, by omega⟩
    refine wk5 @H.s0 @H.s1 @H.s2 @H.oc @rc ?_
    refine callI (H.ctr _ _) ?_
    refine wk0 ?_
    refine vcalm (by kernel_rfl) ?_
    refine condN (fun hc => ?_) (fun hc => ?_)
    ·refine wk0 ?_
     exact ⟨⟨j, by omega, by rw [← hj2]; conv => rhs; rw [scanDown, if_pos (by simp only [ltc, hc, decide_true, decide_false, Bool.not_false, Bool.and_true, decide_eq_true_eq]; omega)]⟩, (by first | rfl | simp [tc, qc]), by simp only; omega⟩
    ·refine wk0 ?_
     exact ⟨⟨j + 1, hj1, by rw [← hj2, scanDown, if_neg (by simp [ltc, hc])]⟩, (by first | rfl | simp [tc, qc])⟩
   ·refine wk0 ?_
    refine vcalm (by kernel_rfl) ?_
    refine wk0 ?_
    refine ⟨⟨j, hj1, ?_⟩, (by first | rfl | simp [tc, qc])⟩
    rw [← hj2]
    cases j with
    | zero => rw [scanDown]
    | succ j => rw [scanDown, if_neg (by simp; omega)]
  rintro ⟨j, hj1, hj⟩
  rw [partLoop, ← hi] at hI
  simp only [← hj] at hI
  refine wk0 ?_
  refine condK.dec (fun hd => ?_) (fun hd => ?_)
  ·rw [if_pos (by omega)] at hI
   refine wk0 ?_
   refine vcalm (by kernel_rfl) ?_
   refine wk0 ?_
   rw [← hP, ← hI]
   simp [memOut, lget, VC]
  ·rw [if_neg (by omega), dif_pos (by omega)] at hI
   have f2 : ((j : Int) - 1) = ((j - 1 : Nat) : Int) := by omega
   refine wk0 ?_
   refine vcalm (by kernel_rfl) ?_
   refine wk1 @f2 ?_
   exact ⟨⟨(i + 1, j - 1, swp x i j), by simp only [swp_size]; exact hx, by simp only; omega, by simp only; omega, by simp only; omega, hI⟩, (by first | rfl | simp [tc, qc]), by simp only; omega⟩
end Go.Proofs.YteipiejlljnclaaGreatDoor
