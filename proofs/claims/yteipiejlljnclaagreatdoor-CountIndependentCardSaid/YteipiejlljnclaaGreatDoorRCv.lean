/- Fractions of the oracle (exactpplref02). Conditions stand in each: limbs below 2^32, at most 2^32 of them. -/
import Derived.Test.YteipiejlljnclaaGreatDoorRCs
import Derived.Test.YteipiejlljnclaaGreatDoorRCu
set_option linter.unusedVariables false
set_option linter.unusedSimpArgs false
set_option maxRecDepth 10000
set_option maxHeartbeats 4000000
namespace Go.Proofs.YteipiejlljnclaaGreatDoor
open Go Go.AL
attribute [local irreducible] run opK opD callK
theorem guardK_b (b : Bool) {X Y : Hold} (h : b = true → X.p) (h' : b = false → Y.p) : guardK (bv b) true (X := X) (Y := Y) := ⟨h, h'⟩
theorem c_lowest (b : Bool) (n d : List Nat) (hn : Sm n) (hd : Sm d) (h0 : 0 < val d) : CT 179 [.data (bv b), dat n, dat d]
  {val := qr (ratOf b n d), args := [.data (bv b), dat n, dat d] } := by
 have hgp : 0 < (val n).gcd (val d) := Nat.gcd_pos_of_pos_right _ h0
 have hgl := val_limbs ((val n).gcd (val d))
 have hgs : Sm (limbs ((val n).gcd (val d))) := hd.of (Nat.le_of_dvd h0 (Nat.gcd_dvd_right _ _))
 refine Ctr.intro ⟨Tryz.f179, _, Tryz.call179, Tryz.func179, fold_body (by rfl) (by kernel_rfl), (by simp [Tryz.ntmps179]), (by simp), (by kernel_rfl), ?_⟩
 refine wks ?_
 refine wk0 ?_
 refine callI (c_GCD1 n d hn hd) ?_
 refine wk0 ?_
 refine callI (c_DivMod1 n _ hn hgs (by rw [hgl]; exact hgp)) ?_
 rw [hgl]
 refine wk0 ?_
 refine callI (c_DivMod1 d _ hd hgs (by rw [hgl]; exact hgp)) ?_
 rw [hgl]
 refine wk0 ?_
 by_cases hz : val n = 0
 ·have e : ratOf b n d = 0 := by rw [ratOf, hz, mk_zero]
  rw [e, qr_zero, hz, Nat.gcd_zero_left, Nat.div_self h0, Nat.zero_div, limbs_zero, limbs_one]
  cases b
  ·refine wk0 ?_
   first | trivial | (refine ⟨Or.inr ?_, ?_⟩ <;> simp [cellsOut, cellOut, hsOut, cellKeys, lget, disjB, cleanL, cleanCell, VC, u32s, u32s_len, inL])
  ·refine wk0 ?_
   first | trivial | (refine ⟨Or.inr ?_, ?_⟩ <;> simp [cellsOut, cellOut, hsOut, cellKeys, lget, disjB, cleanL, cleanCell, VC, u32s, u32s_len, inL])
 ·have hnz : 0 < val n := by omega
  have e : qr (ratOf b n d) = _ := qr_mk b (val n) (val d) h0 hnz
  rw [e]
  have hq : 0 < val n / (val n).gcd (val d) := Nat.div_pos (Nat.le_of_dvd hnz (Nat.gcd_dvd_left _ _)) hgp
  have hl : 0 < (limbs (val n / (val n).gcd (val d))).length := List.length_pos_iff.2 fun h => by rw [limbs_eq_nil] at h; omega
  cases b
  ·refine wk0 ?_
   first | trivial | (refine ⟨Or.inr ?_, ?_⟩ <;> simp [cellsOut, cellOut, hsOut, cellKeys, lget, disjB, cleanL, cleanCell, VC, u32s, u32s_len, inL])
  ·refine wk0 ?_
   first | trivial | (refine ⟨Or.inr ?_, ?_⟩ <;> simp [cellsOut, cellOut, hsOut, cellKeys, lget, disjB, cleanL, cleanCell, VC, u32s, u32s_len, inL])
   exact hl
theorem c_Norm2 (b : Bool) (n d : List Nat) (hn : Ql n) (hd : Ql d) : CT 114 [.data (fr b n d)] { val := qr (ratOf b n d), args := [.data (fr b n d)] } := by
 refine Ctr.intro ⟨Tryz.f114, _, Tryz.call114, Tryz.func114, fold_body (by rfl) (by kernel_rfl), (by simp [Tryz.ntmps114]), (by simp), (by kernel_rfl), ?_⟩
 refine wks ?_
 refine wk0 ?_
 refine callI (c_Trim1 d hd.sm.nm) ?_
 refine wk0 ?_
 refine condK.dec (fun h => ?_) (fun h => ?_)
 ·have hz : val d = 0 := limbs_eq_nil.1 (List.eq_nil_of_length_eq_zero (by omega))
  have e : ratOf b n d = 0 := by rw [ratOf, hz, Rat.mkRat_zero]
  rw [e, qr_zero]
  refine wk0 ?_
  first | trivial | (refine ⟨Or.inr ?_, ?_⟩ <;> simp [cellsOut, cellOut, hsOut, cellKeys, lget, disjB, cleanL, cleanCell, VC, u32s, u32s_len, inL])
 ·have hz : 0 < val d := Nat.pos_of_ne_zero fun h0 => h (by rw [h0, limbs_zero]; rfl)
  refine wk0 ?_
  refine callI (c_lowest b n d hn.sm hd.sm hz) ?_
  refine wk1 @qr.eq_1 ?_
  first | trivial | (refine ⟨Or.inr ?_, ?_⟩ <;> simp [cellsOut, cellOut, hsOut, cellKeys, lget, disjB, cleanL, cleanCell, VC, u32s, u32s_len, inL])
theorem c_Sign2 (b : Bool) (n d : List Nat) (hn : Ql n) (hd : Ql d) : CT 115 [.data (fr b n d)] { val := iv .i64 (sgn (ratOf b n d)), args := [.data (fr b n d)] } := by
 refine Ctr.intro ⟨Tryz.f115, _, Tryz.call115, Tryz.func115, fold_body (by rfl) (by kernel_rfl), (by simp [Tryz.ntmps115]), (by simp), (by kernel_rfl), ?_⟩
 refine wks ?_
 refine wk0 ?_
 refine callI (c_Norm2 b n d hn hd) ?_
 generalize ratOf b n d = q
 refine wk1 @qr.eq_1 ?_
 refine condK.dec (fun h => ?_) (fun h => ?_)
 ·have h0 : q.num = 0 := by
   have := limbs_eq_nil.1 (List.eq_nil_of_length_eq_zero (l := limbs q.num.natAbs) (by omega))
   omega
  refine wk0 ?_
  exact ⟨vi (by rw [sgn, if_pos h0]), trivial⟩
 ·have h0 : q.num ≠ 0 := fun h0 => h (by rw [h0]; simp [limbs_zero])
  refine wk0 ?_
  refine condK.dec (fun h2 => ?_) (fun h2 => ?_)
  ·refine wk0 ?_
   exact ⟨vi (by rw [sgn, if_neg h0, if_pos h2]), trivial⟩
  ·refine wk0 ?_
   exact ⟨vi (by rw [sgn, if_neg h0, if_neg h2]), trivial⟩
theorem c_RMul2 (b1 b2 : Bool) (n1 d1 n2 d2 : List Nat) (h1 : Ql n1) (g1 : Ql d1) (h2 : Ql n2) (g2 : Ql d2) : CT 121 [.data (fr b1 n1 d1), .data (fr b2 n2 d2)]
  {val := qr (ratOf b1 n1 d1 * ratOf b2 n2 d2), args := [.data (fr b1 n1 d1), .data (fr b2 n2 d2)] } := by
 refine Ctr.intro ⟨Tryz.f121, _, Tryz.call121, Tryz.func121, fold_body (by rfl) (by kernel_rfl), (by simp [Tryz.ntmps121]), (by simp), (by kernel_rfl), ?_⟩
 refine wks ?_
 refine wk0 ?_
 refine callI (c_Norm2 b1 n1 d1 h1 g1) ?_
 refine wk0 ?_
 refine callI (c_Norm2 b2 n2 d2 h2 g2) ?_
 have hx := ratOf_size (b := b1) h1 g1
 have hy := ratOf_size (b := b2) h2 g2
 generalize ratOf b1 n1 d1 = x at *
 generalize ratOf b2 n2 d2 = y at *
 have e := mul_mk x y
 have f1 := hx.n.mul hy.n
 have f2 := hx.d.mul hy.d
 refine wk1 @qr.eq_1 ?_
 refine vcalm (by kernel_rfl) ?_
 refine wk0 ?_
 refine callI (c_Mul1 _ _ hx.n.sm hy.n.sm) ?_
 rw [val_limbs, val_limbs]
 refine wk0 ?_
 refine callI (c_Mul1 _ _ hx.d.sm hy.d.sm) ?_
 rw [val_limbs, val_limbs]
 refine wk0 ?_
 refine callI (c_lowest _ _ _ f1 f2 (by rw [val_limbs]; exact Nat.mul_pos x.den_pos y.den_pos)) ?_
 rw [ratOf, val_limbs, val_limbs, ← e]
 refine wk1 @qr.eq_1 ?_
 refine vcalm (by kernel_rfl) ?_
 refine wk0 ?_
 first | trivial | (refine ⟨Or.inr ?_, ?_⟩ <;> simp [cellsOut, cellOut, hsOut, cellKeys, lget, disjB, cleanL, cleanCell, VC, u32s, u32s_len, inL])
theorem sg_diff {b1 b2 : Bool} {m n : Nat} (hb : ¬ b1 = b2) (h : n ≤ m) : sg b1 (m - n) = sg b1 m + sg b2 n := by
 cases b1 <;> cases b2 <;> first | exact absurd rfl hb | (simp only [sg, if_true, Bool.false_eq_true, if_false]; omega)
theorem c_RAdd2 (b1 b2 : Bool) (n1 d1 n2 d2 : List Nat) (h1 : Ql n1) (g1 : Ql d1) (h2 : Ql n2) (g2 : Ql d2) : CT 113 [.data (fr b1 n1 d1), .data (fr b2 n2 d2)]
  {val := qr (ratOf b1 n1 d1 + ratOf b2 n2 d2), args := [.data (fr b1 n1 d1), .data (fr b2 n2 d2)] } := by
 refine Ctr.intro ⟨Tryz.f113, _, Tryz.call113, Tryz.func113, fold_body (by rfl) (by kernel_rfl), (by simp [Tryz.ntmps113]), (by simp), (by kernel_rfl), ?_⟩
 refine wks ?_
 refine wk0 ?_
 refine callI (c_Norm2 b1 n1 d1 h1 g1) ?_
 refine wk0 ?_
 refine callI (c_Norm2 b2 n2 d2 h2 g2) ?_
 have hx := ratOf_size (b := b1) h1 g1
 have hy := ratOf_size (b := b2) h2 g2
 generalize ratOf b1 n1 d1 = x at *
 generalize ratOf b2 n2 d2 = y at *
 have e := add_mk x y
 have f1 := hx.n.mul hy.d
 have f2 := hy.n.mul hx.d
 have f3 := hx.d.mul hy.d
 have f4 : Sm (limbs (x.num.natAbs * y.den + y.num.natAbs * x.den)) := sum_sm (k := 8589934592) (by have := limbs_mul_len x.num.natAbs y.den; have := hx.n.len; have := hy.d.len; omega) (by have := limbs_mul_len y.num.natAbs x.den; have := hy.n.len; have := hx.d.len; omega) (by decide)
 have hdp := Nat.mul_pos x.den_pos y.den_pos
 refine wk1 @qr.eq_1 ?_
 refine vcalm (by kernel_rfl) ?_
 refine wk0 ?_
 refine callI (c_Mul1 _ _ hx.n.sm hy.d.sm) ?_
 rw [val_limbs, val_limbs]
 refine wk0 ?_
 refine callI (c_Mul1 _ _ hy.n.sm hx.d.sm) ?_
 rw [val_limbs, val_limbs]
 refine wk0 ?_
 refine vcalm (by kernel_rfl) ?_
 refine wk0 ?_
 refine callI (c_Mul1 _ _ hx.d.sm hy.d.sm) ?_
 rw [val_limbs, val_limbs, e]
 generalize x.num.natAbs * y.den = m1 at *
 generalize y.num.natAbs * x.den = m2 at *
 generalize x.den * y.den = dd at *
 refine wk0 ?_
 by_cases hb : decide (x.num < 0) = decide (y.num < 0)
 ·rw [hb]
  refine wk0 ?_
  refine callI (c_Add1 _ _ f1 f2) ?_
  rw [val_limbs, val_limbs]
  refine wk0 ?_
  refine callI (c_lowest _ _ _ f4 f3 (by rw [val_limbs]; exact hdp)) ?_
  have e2 : ratOf (decide (y.num < 0)) (limbs (m1 + m2)) (limbs dd) = mkRat (sg (decide (y.num < 0)) m1 + sg (decide (y.num < 0)) m2) dd := by
   rw [ratOf, val_limbs, val_limbs]
   congr 1
   cases decide (y.num < 0) <;> simp only [sg, if_true, Bool.false_eq_true, if_false] <;> omega
  rw [e2]
  refine wk1 @qr.eq_1 ?_
  refine vcalm (by kernel_rfl) ?_
  refine wk0 ?_
  first | trivial | (refine ⟨Or.inr ?_, ?_⟩ <;> simp [cellsOut, cellOut, hsOut, cellKeys, lget, disjB, cleanL, cleanCell, VC, u32s, u32s_len, inL])
 ·have hbb : (decide (x.num < 0) == decide (y.num < 0)) = false := by simpa using hb
  generalize decide (x.num < 0) = c1 at *
  generalize decide (y.num < 0) = c2 at *
  refine wk1 @hbb ?_
  refine callI (c_Sub1 _ _ f1 f2) ?_
  rw [val_limbs, val_limbs]
  by_cases hlt : m1 < m2
  ·rw [if_pos hlt]
   refine wk0 ?_
   refine callI (c_Sub1 _ _ f2 f1) ?_
   rw [val_limbs, val_limbs, if_neg (by omega)]
   refine wk0 ?_
   refine callI (c_lowest _ _ _ (f4.of (by rw [val_limbs]; omega)) f3 (by rw [val_limbs]; exact hdp)) ?_
   have e2 : ratOf c2 (limbs (m2 - m1)) (limbs dd) = mkRat (sg c1 m1 + sg c2 m2) dd := by
    rw [ratOf, val_limbs, val_limbs, sg_diff (fun h => hb h.symm) (by omega : m1 ≤ m2), Int.add_comm]
   rw [e2]
   refine wk1 @qr.eq_1 ?_
   first | trivial | (refine ⟨Or.inr ?_, ?_⟩ <;> simp [cellsOut, cellOut, hsOut, cellKeys, lget, disjB, cleanL, cleanCell, VC, u32s, u32s_len, inL])
  ·rw [if_neg hlt]
   refine wk0 ?_
   refine callI (c_lowest _ _ _ (f4.of (by rw [val_limbs]; omega)) f3 (by rw [val_limbs]; exact hdp)) ?_
   have e2 : ratOf c1 (limbs (m1 - m2)) (limbs dd) = mkRat (sg c1 m1 + sg c2 m2) dd := by
    rw [ratOf, val_limbs, val_limbs, sg_diff hb (by omega : m2 ≤ m1)]
   rw [e2]
   refine wk1 @qr.eq_1 ?_
   first | trivial | (refine ⟨Or.inr ?_, ?_⟩ <;> simp [cellsOut, cellOut, hsOut, cellKeys, lget, disjB, cleanL, cleanCell, VC, u32s, u32s_len, inL])
theorem qr_int (n : Int) : qr (n : Rat) = fr (decide (n < 0)) (limbs n.natAbs) [1] := by
 rw [qr, Rat.num_intCast, Rat.den_intCast, limbs_one]
theorem c_Int2 (n : Int) (h : -9223372036854775808 ≤ n ∧ n < 9223372036854775808) : CT 37 [.data (iv .i64 n)] { val := qr (n : Rat), args := [.data (iv .i64 n)] } := by
 rw [qr_int]
 refine Ctr.intro ⟨Tryz.f37, _, Tryz.call37, Tryz.func37, fold_body (by rfl) (by kernel_rfl), (by simp [Tryz.ntmps37]), (by simp), (by kernel_rfl), ?_⟩
 refine wks ?_
 refine wk0 ?_
 refine condK.dec (fun h1 => ?_) (fun h1 => ?_)
 ·obtain ⟨m, rfl⟩ : ∃ m : Nat, n = m := ⟨n.toNat, by omega⟩
  have e : decide ((m : Int) < 0) = false := decide_eq_false (by omega)
  rw [e, Int.natAbs_natCast]
  refine wk0 ?_
  refine callI (c_FromInt1 m (by omega)) ?_
  refine wk0 ?_
  first | trivial | (refine ⟨Or.inr ?_, ?_⟩ <;> simp [cellsOut, cellOut, hsOut, cellKeys, lget, disjB, cleanL, cleanCell, VC, u32s, u32s_len, inL])
 ·obtain ⟨m, rfl⟩ : ∃ m : Nat, n = -((m : Int) + 1) := ⟨(-n - 1).toNat, by omega⟩
  have e : decide (-((m : Int) + 1) < 0) = true := decide_eq_true (by omega)
  have e2 : (-((m : Int) + 1)).natAbs = m + 1 := by omega
  have e3 : -((m : Int) + 1) + 1 = -(m : Int) := by omega
  have e4 : (0 : Int) - -(m : Int) = (m : Int) := by omega
  have hm : m < 9223372036854775808 := by omega
  rw [e, e2]
  refine wk2 @e3 @e4 ?_
  refine callI (c_FromInt1 m hm) ?_
  refine wk0 ?_
  have hl2 := limbs_len_le (n := m) (k := 2) (Nat.lt_of_lt_of_le hm (by decide))
  refine callI (c_Add1 _ [1] ⟨lim_limbs m, by omega⟩ ⟨Lim.cons (by decide) Lim.nil, by simp⟩) ?_
  rw [val_limbs, val_single]
  refine wk0 ?_
  first | trivial | (refine ⟨Or.inr ?_, ?_⟩ <;> simp [cellsOut, cellOut, hsOut, cellKeys, lget, disjB, cleanL, cleanCell, VC, u32s, u32s_len, inL])
theorem c_New2 (n : Int) (d : Nat) (hn : -9223372036854775808 ≤ n ∧ n < 9223372036854775808) (hd : 0 < d ∧ d < 9223372036854775808) : CT 156 [.data (iv .i64 n), .data (iv .i64 d)]
  {val := .tup [qr (mkRat n d), iv .i64 0], args := [.data (iv .i64 n), .data (iv .i64 d)] } := by
 have hp2 : pw 2 = 18446744073709551616 := by decide
 have ln := limbs_len_le (n := n.natAbs) (k := 2) (by omega)
 have ld := limbs_len_le (n := d) (k := 2) (by omega)
 refine Ctr.intro ⟨Tryz.f156, _, Tryz.call156, Tryz.func156, fold_body (by rfl) (by kernel_rfl), (by simp [Tryz.ntmps156]), (by simp), (by kernel_rfl), ?_⟩
 refine wks ?_
 refine wk0 ?_
 refine callI (c_Int2 n hn) ?_
 rw [qr_int]
 refine wk0 ?_
 refine callI (c_Int2 d (by omega)) ?_
 have e0 : decide ((d : Int) < 0) = false := decide_eq_false (by omega)
 rw [qr_int, e0, Int.natAbs_natCast]
 refine wk0 ?_
 refine callI (c_lowest _ _ _ ⟨lim_limbs _, by omega⟩ ⟨lim_limbs _, by omega⟩ (by rw [val_limbs]; omega)) ?_
 have e : ratOf (decide (n < 0) != false) (limbs n.natAbs) (limbs d) = mkRat n d := by
  rw [ratOf, val_limbs, val_limbs, Bool.bne_false, sg_num]
 rw [e]
 generalize mkRat n d = q
 refine wk1 @qr.eq_1 ?_
 simp [cellsOut, cellOut, hsOut, cellKeys, lget, disjB, cleanL, cleanCell, VC, u32s, u32s_len, inL]
theorem c_Same2 (b1 b2 : Bool) (n1 d1 n2 d2 : List Nat) (h1 : Nm n1) (g1 : Nm d1) (h2 : Nm n2) (g2 : Nm d2) : CT 57 [.data (fr b1 n1 d1), .data (fr b2 n2 d2)]
  {val := bv (decide (b1 = b2 ∧ n1 = n2 ∧ d1 = d2)), args := [.data (fr b1 n1 d1), .data (fr b2 n2 d2)] } := by
 refine Ctr.intro ⟨Tryz.f57, _, Tryz.call57, Tryz.func57, fold_body (by rfl) (by kernel_rfl), (by simp [Tryz.ntmps57]), (by simp), (by kernel_rfl), ?_⟩
 refine wks ?_
 refine wk0 ?_
 refine guardK_b _ (fun hb => ?_) (fun hb => ?_)
 ·have hbe : b1 = b2 := by simpa using hb
  refine wk1 @hb ?_
  refine callI (c_Same n1 n2 h1 h2) ?_
  refine wk1 @hb ?_
  refine guardK.dec (fun h => ?_) (fun h => ?_)
  ·refine wk0 ?_
   refine callI (c_Same d1 d2 g1 g2) ?_
   rw [decide_eq_true h]
   refine wk0 ?_
   exact ⟨by simp [hbe, h], trivial⟩
  ·rw [decide_eq_false h]
   refine wk0 ?_
   exact ⟨by simp [h], trivial⟩
 ·have hbe : ¬ b1 = b2 := by simpa using hb
  rw [hb]
  refine wk0 ?_
  exact ⟨by simp [hbe], trivial⟩
theorem c_Same2q (x y : Rat) (hx : Qz x) (hy : Qz y) : CT 57 [.data (qr x), .data (qr y)] { val := bv (decide (x = y)), args := [.data (qr x), .data (qr y)] } := by
 have := c_Same2 (decide (x.num < 0)) (decide (y.num < 0)) _ _ _ _ hx.n.sm.nm hx.d.sm.nm hy.n.sm.nm hy.d.sm.nm
 have e : (decide (x.num < 0) = decide (y.num < 0) ∧ limbs x.num.natAbs = limbs y.num.natAbs ∧ limbs x.den = limbs y.den) ↔ x = y := by
  constructor
  ·rintro ⟨h1, h2, h3⟩
   have h2' := limbs_inj h2
   refine Rat.ext ?_ (limbs_inj h3)
   rw [← sg_num x.num, ← sg_num y.num, h1, h2']
  ·rintro rfl; exact ⟨rfl, rfl, rfl⟩
 rw [decide_eq_decide.2 e] at this
 exact this
end Go.Proofs.YteipiejlljnclaaGreatDoor
