/- Sorting, part 5: the choice of a pivot. Conditions stand in each. -/
import Derived.Test.YteipiejlljnclaaGreatDoorRFa
set_option linter.unusedVariables false
set_option linter.unusedSimpArgs false
set_option maxRecDepth 10000
set_option maxHeartbeats 8000000
namespace Go.Proofs.YteipiejlljnclaaGreatDoor
open Go Go.AL Go.Sort
attribute [local irreducible] run opK opD callK
attribute [local irreducible] ec pa swp
variable {c : Nat} {r : Value} {cf : Tm → Tm → Int}
@[go_sem] abbrev swd (n : Nat) : PA := .ptr 1 (iv .i64 n) []
theorem c_order2 (H : Cmp c r cf) (d : Array Tm) (a b n : Nat) (ha : a < d.size) (hb : b < d.size) (hs : d.size < 1152921504606846976) (hn : n < 1000) :
  CT 320 [sdat d, .data (iv .i64 a), .data (iv .i64 b), swd n, .data (cmpv c r)]
  {val := .tup [iv .i64 (order2 (ltc cf) d a b n).1, iv .i64 (order2 (ltc cf) d a b n).2.1], args := [sdat d, .data (iv .i64 a), .data (iv .i64 b), swd (order2 (ltc cf) d a b n).2.2, .data (cmpv c r)] } := by
 have rc := H.rc
 simp only [go_sem] at rc
 refine Ctr.intro ⟨Tryz.f320, _, Tryz.call320, Tryz.func320, fold_body (by rfl) (by kernel_rfl), (by simp [Tryz.ntmps320]), (by simp), (by kernel_rfl), ?_⟩
 refine wks ?_
 refine wk0 ?_
 refine wk5 @H.s0 @H.s1 @H.s2 @H.oc @rc ?_
 refine callI (H.ctr _ _) ?_
 refine wk0 ?_
 refine vcalm (by kernel_rfl) ?_
 refine condK.dec (fun hc => ?_) (fun hc => ?_)
 ·have e : order2 (ltc cf) d a b n = (b, a, n + 1) := by rw [order2, if_pos (by simp [ltc, hc])]
  refine wk1 @e ?_
  simp [memOut, lget, VC, packOut, packKeys, cellsOf, cellKeys, disjB, inL, AV.isAgg, cellOut]
 ·have e : order2 (ltc cf) d a b n = (a, b, n) := by rw [order2, if_neg (by simp [ltc, hc])]
  refine wk1 @e ?_
  simp [memOut, lget, VC, packOut, packKeys, cellsOf, cellKeys, disjB, inL, AV.isAgg, cellOut]
theorem order2_le {lt : Tm → Tm → Bool} {d : Array Tm} {a b n : Nat} : (order2 lt d a b n).2.2 ≤ n + 1 ∧ ∀ N, a < N → b < N → (order2 lt d a b n).1 < N ∧ (order2 lt d a b n).2.1 < N := by
 unfold order2
 split
 ·exact ⟨Nat.le_refl _, fun N h1 h2 => ⟨h2, h1⟩⟩
 ·exact ⟨Nat.le_succ _, fun N h1 h2 => ⟨h1, h2⟩⟩
theorem c_median (H : Cmp c r cf) (d : Array Tm) (a b k n : Nat) (ha : a < d.size) (hb : b < d.size) (hk : k < d.size) (hs : d.size < 1152921504606846976) (hn : n < 900) :
  CT 303 [sdat d, .data (iv .i64 a), .data (iv .i64 b), .data (iv .i64 k), swd n, .data (cmpv c r)]
  {val := iv .i64 (median (ltc cf) d a b k n).1, args := [sdat d, .data (iv .i64 a), .data (iv .i64 b), .data (iv .i64 k), swd (median (ltc cf) d a b k n).2, .data (cmpv c r)] } := by
 obtain ⟨r1, h1⟩ : ∃ r1, r1 = order2 (ltc cf) d a b n := ⟨_, rfl⟩
 obtain ⟨r2, h2⟩ : ∃ r2, r2 = order2 (ltc cf) d r1.2.1 k r1.2.2 := ⟨_, rfl⟩
 obtain ⟨r3, h3⟩ : ∃ r3, r3 = order2 (ltc cf) d r1.1 r2.1 r2.2.2 := ⟨_, rfl⟩
 have e : median (ltc cf) d a b k n = (r3.2.1, r3.2.2) := by rw [h3, h2, h1]; rfl
 have b1 := order2_le (lt := ltc cf) (d := d) (a := a) (b := b) (n := n)
 rw [← h1] at b1
 obtain ⟨b1n, b1i⟩ := b1
 have b1i := b1i _ ha hb
 have b2 := order2_le (lt := ltc cf) (d := d) (a := r1.2.1) (b := k) (n := r1.2.2)
 rw [← h2] at b2
 obtain ⟨b2n, b2i⟩ := b2
 have b2i := b2i _ b1i.2 hk
 have b3 := order2_le (lt := ltc cf) (d := d) (a := r1.1) (b := r2.1) (n := r2.2.2)
 rw [← h3] at b3
 obtain ⟨b3n, b3i⟩ := b3
 have b3i := b3i _ b1i.1 b2i.1
 have c1 := c_order2 H d a b n ha hb hs (by omega)
 have c2 := c_order2 H d r1.2.1 k r1.2.2 b1i.2 hk hs (by omega)
 have c3 := c_order2 H d r1.1 r2.1 r2.2.2 b1i.1 b2i.1 hs (by omega)
 rw [← h1] at c1
 rw [← h2] at c2
 rw [← h3] at c3
 rw [e]
 obtain ⟨x1, y1, n1⟩ := r1
 obtain ⟨x2, y2, n2⟩ := r2
 obtain ⟨x3, y3, n3⟩ := r3
 simp only at *
 clear h1 h2 h3 e
 refine Ctr.intro ⟨Tryz.f303, _, Tryz.call303, Tryz.func303, fold_body (by rfl) (by kernel_rfl), (by simp [Tryz.ntmps303]), (by simp), (by kernel_rfl), ?_⟩
 refine wks ?_
 refine wk0 ?_
 refine callI (c1) ?_
 refine wk0 ?_
 refine callI (c2) ?_
 refine wk0 ?_
 refine callI (c3) ?_
 refine wk0 ?_
 simp [memOut, lget, VC, packOut, packKeys, cellsOf, cellKeys, disjB, inL, AV.isAgg, cellOut]
theorem median_le {lt : Tm → Tm → Bool} {d : Array Tm} {a b k n : Nat} : (median lt d a b k n).2 ≤ n + 3 ∧ ∀ N, a < N → b < N → k < N → (median lt d a b k n).1 < N := by
 obtain ⟨r1, e1⟩ : ∃ r1, r1 = order2 lt d a b n := ⟨_, rfl⟩
 obtain ⟨r2, e2⟩ : ∃ r2, r2 = order2 lt d r1.2.1 k r1.2.2 := ⟨_, rfl⟩
 obtain ⟨r3, e3⟩ : ∃ r3, r3 = order2 lt d r1.1 r2.1 r2.2.2 := ⟨_, rfl⟩
 have e : median lt d a b k n = (r3.2.1, r3.2.2) := by rw [e3, e2, e1]; rfl
 have h1 := order2_le (lt := lt) (d := d) (a := a) (b := b) (n := n)
 have h2 := order2_le (lt := lt) (d := d) (a := r1.2.1) (b := k) (n := r1.2.2)
 have h3 := order2_le (lt := lt) (d := d) (a := r1.1) (b := r2.1) (n := r2.2.2)
 rw [← e1] at h1
 rw [← e2] at h2
 rw [← e3] at h3
 rw [e]
 refine ⟨by simp only; omega, fun N ha hb hk => ?_⟩
 have i1 := h1.2 N ha hb
 have i2 := h2.2 N i1.2 hk
 exact (h3.2 N i1.1 i2.1).2
theorem c_medAdj (H : Cmp c r cf) (d : Array Tm) (a n : Nat) (ha : 1 ≤ a) (hb : a + 1 < d.size) (hs : d.size < 1152921504606846976) (hn : n < 900) :
  CT 302 [sdat d, .data (iv .i64 a), swd n, .data (cmpv c r)]
  {val := iv .i64 (medianAdjacent (ltc cf) d a n).1, args := [sdat d, .data (iv .i64 a), swd (medianAdjacent (ltc cf) d a n).2, .data (cmpv c r)] } := by
 have f1 : ((a : Int) - 1) = ((a - 1 : Nat) : Int) := by omega
 have f2 : ((a : Int) + 1) = ((a + 1 : Nat) : Int) := by omega
 have c1 := c_median H d (a - 1) a (a + 1) n (by omega) (by omega) hb hs hn
 have e : median (ltc cf) d (a - 1) a (a + 1) n = medianAdjacent (ltc cf) d a n := rfl
 rw [e] at c1
 generalize medianAdjacent (ltc cf) d a n = m at *
 refine Ctr.intro ⟨Tryz.f302, _, Tryz.call302, Tryz.func302, fold_body (by rfl) (by kernel_rfl), (by simp [Tryz.ntmps302]), (by simp), (by kernel_rfl), ?_⟩
 refine wks ?_
 refine wk2 @f1 @f2 ?_
 refine callI (c1) ?_
 refine wk0 ?_
 simp [memOut, lget, VC, packOut, packKeys, cellsOf, cellKeys, disjB, inL, AV.isAgg, cellOut]
def hnt : Hint → Int
 | .unknown => 0
 | .increasing => 1
 | .decreasing => 2
theorem c_choose (H : Cmp c r cf) (d : Array Tm) (a b : Nat) (hab : a < b) (hb : b ≤ d.size) (hs : d.size < 1152921504606846976) :
  CT 271 (sargs d a b c r) { val := .tup [iv .i64 (choosePivot (ltc cf) d a b).1, iv .i64 (hnt (choosePivot (ltc cf) d a b).2)], args := sargs d a b c r } := by
 obtain ⟨l, hl⟩ : ∃ l, l = b - a := ⟨_, rfl⟩
 have f0 : ((b : Int) - (a : Int)) = (l : Int) := by omega
 have f1 : ((l : Int)).tdiv 4 = ((l / 4 : Nat) : Int) := by rw [Int.tdiv_eq_ediv_of_nonneg (by omega)]; omega
 have g1 : ((a : Int) + ((l / 4 : Nat) : Int) * 1) = ((a + l / 4 * 1 : Nat) : Int) := by omega
 have g2 : ((a : Int) + ((l / 4 : Nat) : Int) * 2) = ((a + l / 4 * 2 : Nat) : Int) := by omega
 have g3 : ((a : Int) + ((l / 4 : Nat) : Int) * 3) = ((a + l / 4 * 3 : Nat) : Int) := by omega
 obtain ⟨i, hi⟩ : ∃ i, i = a + l / 4 * 1 := ⟨_, rfl⟩
 obtain ⟨j, hj⟩ : ∃ j, j = a + l / 4 * 2 := ⟨_, rfl⟩
 obtain ⟨k, hk⟩ : ∃ k, k = a + l / 4 * 3 := ⟨_, rfl⟩
 rw [← hi] at g1
 rw [← hj] at g2
 rw [← hk] at g3
 have hidx : i < d.size ∧ j < d.size ∧ k < d.size := by omega
 refine Ctr.intro ⟨Tryz.f271, _, Tryz.call271, Tryz.func271, fold_body (by rfl) (by kernel_rfl), (by simp [Tryz.ntmps271]), (by simp), (by kernel_rfl), ?_⟩
 refine wks ?_
 refine wk5 @f0 @f1 @g1 @g2 @g3 ?_
 refine condK.dec (fun h8 => ?_) (fun h8 => ?_)
 ·refine wk0 ?_
  refine condK.dec (fun h50 => ?_) (fun h50 => ?_)
  ·obtain ⟨ri, hri⟩ : ∃ x, x = medianAdjacent (ltc cf) d i 0 := ⟨_, rfl⟩
   obtain ⟨rj, hrj⟩ : ∃ x, x = medianAdjacent (ltc cf) d j ri.2 := ⟨_, rfl⟩
   obtain ⟨rk, hrk⟩ : ∃ x, x = medianAdjacent (ltc cf) d k rj.2 := ⟨_, rfl⟩
   obtain ⟨R, hR⟩ : ∃ x, x = median (ltc cf) d ri.1 rj.1 rk.1 rk.2 := ⟨_, rfl⟩
   have e : (R.1, if R.2 = 0 then Hint.increasing else if R.2 = 12 then Hint.decreasing else Hint.unknown) = choosePivot (ltc cf) d a b := by
    unfold choosePivot
    simp only [← hl, ← hi, ← hj, ← hk]
    rw [if_pos (show l ≥ 8 by omega), if_pos (show l ≥ 50 by omega), ← hri, ← hrj, ← hrk, ← hR]
   have b1 : ri.2 ≤ 3 ∧ ri.1 < d.size := by have := median_le (lt := ltc cf) (d := d) (a := i - 1) (b := i) (k := i + 1) (n := 0); rw [hri]; exact ⟨this.1, this.2 _ (by omega) (by omega) (by omega)⟩
   have b2 : rj.2 ≤ ri.2 + 3 ∧ rj.1 < d.size := by have := median_le (lt := ltc cf) (d := d) (a := j - 1) (b := j) (k := j + 1) (n := ri.2); rw [hrj]; exact ⟨this.1, this.2 _ (by omega) (by omega) (by omega)⟩
   have b3 : rk.2 ≤ rj.2 + 3 ∧ rk.1 < d.size := by have := median_le (lt := ltc cf) (d := d) (a := k - 1) (b := k) (k := k + 1) (n := rj.2); rw [hrk]; exact ⟨this.1, this.2 _ (by omega) (by omega) (by omega)⟩
   have c1 := c_medAdj H d i 0 (by omega) (by omega) hs (by omega)
   have c2 := c_medAdj H d j ri.2 (by omega) (by omega) hs (by omega)
   have c3 := c_medAdj H d k rj.2 (by omega) (by omega) hs (by omega)
   have c4 := c_median H d ri.1 rj.1 rk.1 rk.2 b1.2 b2.2 b3.2 hs (by omega)
   rw [← hri] at c1
   rw [← hrj] at c2
   rw [← hrk] at c3
   rw [← hR] at c4
   obtain ⟨ri1, ri2⟩ := ri
   obtain ⟨rj1, rj2⟩ := rj
   obtain ⟨rk1, rk2⟩ := rk
   obtain ⟨R1, R2⟩ := R
   simp only at *
   clear hri hrj hrk hR
   refine wk0 ?_
   refine callI (c1) ?_
   refine wk0 ?_
   refine callI (c2) ?_
   refine wk0 ?_
   refine callI (c3) ?_
   refine wk0 ?_
   refine callI (c4) ?_
   refine wk0 ?_
   refine condK.dec (fun h1 => ?_) (fun h1 => ?_)
   ·rw [if_pos (by omega)] at e
    refine wk4 (e).symm @hnt.eq_1 @hnt.eq_2 @hnt.eq_3 ?_
    simp [memOut, lget, VC, packOut, packKeys, cellsOf, cellKeys, disjB, inL, AV.isAgg, cellOut]
   ·rw [if_neg (by omega)] at e
    refine wk0 ?_
    refine condK.dec (fun h2 => ?_) (fun h2 => ?_)
    ·rw [if_pos (by omega)] at e
     refine wk4 (e).symm @hnt.eq_1 @hnt.eq_2 @hnt.eq_3 ?_
     simp [memOut, lget, VC, packOut, packKeys, cellsOf, cellKeys, disjB, inL, AV.isAgg, cellOut]
    ·rw [if_neg (by omega)] at e
     refine wk4 (e).symm @hnt.eq_1 @hnt.eq_2 @hnt.eq_3 ?_
     simp [memOut, lget, VC, packOut, packKeys, cellsOf, cellKeys, disjB, inL, AV.isAgg, cellOut]
  ·obtain ⟨R, hR⟩ : ∃ x, x = median (ltc cf) d i j k 0 := ⟨_, rfl⟩
   have e : (R.1, if R.2 = 0 then Hint.increasing else if R.2 = 12 then Hint.decreasing else Hint.unknown) = choosePivot (ltc cf) d a b := by
    unfold choosePivot
    simp only [← hl, ← hi, ← hj, ← hk]
    rw [if_pos (show l ≥ 8 by omega), if_neg (show ¬ l ≥ 50 by omega), ← hR]
   have c4 := c_median H d i j k 0 hidx.1 hidx.2.1 hidx.2.2 hs (by omega)
   rw [← hR] at c4
   obtain ⟨R1, R2⟩ := R
   simp only at *
   clear hR
   refine wk0 ?_
   refine callI (c4) ?_
   refine wk0 ?_
   refine condK.dec (fun h1 => ?_) (fun h1 => ?_)
   ·rw [if_pos (by omega)] at e
    refine wk4 (e).symm @hnt.eq_1 @hnt.eq_2 @hnt.eq_3 ?_
    simp [memOut, lget, VC, packOut, packKeys, cellsOf, cellKeys, disjB, inL, AV.isAgg, cellOut]
   ·rw [if_neg (by omega)] at e
    refine wk0 ?_
    refine condK.dec (fun h2 => ?_) (fun h2 => ?_)
    ·rw [if_pos (by omega)] at e
     refine wk4 (e).symm @hnt.eq_1 @hnt.eq_2 @hnt.eq_3 ?_
     simp [memOut, lget, VC, packOut, packKeys, cellsOf, cellKeys, disjB, inL, AV.isAgg, cellOut]
    ·rw [if_neg (by omega)] at e
     refine wk4 (e).symm @hnt.eq_1 @hnt.eq_2 @hnt.eq_3 ?_
     simp [memOut, lget, VC, packOut, packKeys, cellsOf, cellKeys, disjB, inL, AV.isAgg, cellOut]
 ·have e : (j, Hint.increasing) = choosePivot (ltc cf) d a b := by
   unfold choosePivot
   simp only [← hl, ← hi, ← hj, ← hk]
   rw [if_neg (show ¬ l ≥ 8 by omega), if_pos rfl]
  refine wk4 (e).symm @hnt.eq_1 @hnt.eq_2 @hnt.eq_3 ?_
  simp [memOut, lget, VC, packOut, packKeys, cellsOf, cellKeys, disjB, inL, AV.isAgg, cellOut]
end Go.Proofs.YteipiejlljnclaaGreatDoor
