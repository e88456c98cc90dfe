/- Fractions: the program's functions of package rational. Conditions stand in each: limbs below 2^32, at most 2^32 of them. -/
import Derived.Test.YteipiejlljnclaaGreatDoorRCt
set_option linter.unusedVariables false
set_option linter.unusedSimpArgs false
set_option maxRecDepth 10000
set_option maxHeartbeats 4000000
namespace Go.Proofs.YteipiejlljnclaaGreatDoor
open Go Go.AL
attribute [local irreducible] run opK opD callK
structure Ql (l : List Nat) : Prop where
 lim : Lim l
 len : l.length ≤ 4294967296
theorem Ql.sm {l : List Nat} (h : Ql l) : Sm l := ⟨h.lim, by have := h.len; omega⟩
theorem Ql.nil : Ql [] := ⟨Lim.nil, by simp⟩
theorem Ql.mul {m n : Nat} (hm : Ql (limbs m)) (hn : Ql (limbs n)) : Sm (limbs (m * n)) := ⟨lim_limbs _, by have := limbs_mul_len m n; have := hm.len; have := hn.len; omega⟩
theorem Ql.le {m n : Nat} (hm : Ql (limbs m)) (h : n ≤ m) : Ql (limbs n) := ⟨lim_limbs _, Nat.le_trans (limbs_len_mono h) hm.len⟩
theorem Ql.limbs {l : List Nat} (h : Ql l) : Ql (Go.Proofs.YteipiejlljnclaaGreatDoor.limbs (val l)) := ⟨lim_limbs _, Nat.le_trans (limbs_len_le (val_lt h.lim)) h.len⟩
structure Qz (q : Rat) : Prop where
 n : Ql (limbs q.num.natAbs)
 d : Ql (limbs q.den)
theorem sg_num (x : Int) : sg (decide (x < 0)) x.natAbs = x := by
 unfold sg
 by_cases h : x < 0
 ·rw [decide_eq_true h, if_pos rfl]; omega
 ·rw [decide_eq_false h, if_neg (by simp)]; omega
theorem ratOf_qr (q : Rat) : ratOf (decide (q.num < 0)) (limbs q.num.natAbs) (limbs q.den) = q := by
 rw [ratOf, val_limbs, val_limbs, sg_num, Rat.mkRat_self]
theorem ratOf_size {b : Bool} {n d : List Nat} (hn : Ql n) (hd : Ql d) : Qz (ratOf b n d) := by
 unfold ratOf
 by_cases h0 : val d = 0
 ·rw [h0, Rat.mkRat_zero]
  refine ⟨?_, ?_⟩
  ·have : (0 : Rat).num.natAbs = 0 := rfl
   rw [this, limbs_zero]; exact Ql.nil
  ·have : (0 : Rat).den = 1 := rfl
   rw [this, limbs_one]; exact ⟨Lim.cons (by decide) Lim.nil, by simp⟩
 ·refine ⟨?_, ?_⟩
  ·rw [Rat.num_mkRat, if_neg h0]
   refine hn.limbs.le ?_
   rw [Int.natAbs_ediv_of_dvd, sg_natAbs]
   ·exact Nat.div_le_self _ _
   ·rw [sg_natAbs]
    have := Nat.gcd_dvd_right (val d) (val n)
    rw [← Int.natAbs_dvd_natAbs, sg_natAbs]
    simpa using this
  ·rw [Rat.den_mkRat, if_neg h0]
   exact hd.limbs.le (Nat.div_le_self _ _)
theorem c_rat (b : Bool) (n d : List Nat) : CT 94 [.data (fr b n d)] { val := fr b n d, args := [.data (fr b n d)] } := by
 refine Ctr.intro ⟨Tryz.f94, _, Tryz.call94, Tryz.func94, fold_body (by rfl) (by kernel_rfl), (by simp [Tryz.ntmps94]), (by simp), (by kernel_rfl), ?_⟩
 refine wks ?_
 refine wk0 ?_
 first | trivial | (refine ⟨Or.inr ?_, ?_⟩ <;> simp [cellsOut, cellOut, hsOut, cellKeys, lget, disjB, cleanL, cleanCell, VC, u32s, u32s_len, inL])
theorem c_number (b : Bool) (n d : List Nat) (hn : Ql n) (hd : Ql d) : CT 170 [.data (fr b n d)] { val := qr (ratOf b n d), args := [.data (fr b n d)] } := by
 refine Ctr.intro ⟨Tryz.f170, _, Tryz.call170, Tryz.func170, fold_body (by rfl) (by kernel_rfl), (by simp [Tryz.ntmps170]), (by simp), (by kernel_rfl), ?_⟩
 refine wks ?_
 refine wk0 ?_
 refine callI (c_isZero d hd.sm.nm) ?_
 refine wk0 ?_
 refine condK.dec (fun h => ?_) (fun h => ?_)
 ·refine wk0 ?_
  refine callI (c_reduce false [] [1] ⟨Lim.nil, by simp⟩ ⟨Lim.cons (by decide) Lim.nil, by simp⟩ (by decide)) ?_
  have e : ratOf b n d = 0 := by rw [ratOf, h, Rat.mkRat_zero]
  have e2 : ratOf false [] [1] = 0 := by rw [ratOf]; exact mk_zero _ _
  rw [e, e2]
  refine wk1 @qr.eq_1 ?_
  first | trivial | (refine ⟨Or.inr ?_, ?_⟩ <;> simp [cellsOut, cellOut, hsOut, cellKeys, lget, disjB, cleanL, cleanCell, VC, u32s, u32s_len, inL])
 ·refine wk0 ?_
  refine callI (c_reduce b n d hn.sm hd.sm (by omega)) ?_
  refine wk1 @qr.eq_1 ?_
  first | trivial | (refine ⟨Or.inr ?_, ?_⟩ <;> simp [cellsOut, cellOut, hsOut, cellKeys, lget, disjB, cleanL, cleanCell, VC, u32s, u32s_len, inL])
theorem c_Norm (b : Bool) (n d : List Nat) (hn : Ql n) (hd : Ql d) : CT 166 [.data (fr b n d)] { val := qr (ratOf b n d), args := [.data (fr b n d)] } := by
 refine Ctr.intro ⟨Tryz.f166, _, Tryz.call166, Tryz.func166, fold_body (by rfl) (by kernel_rfl), (by simp [Tryz.ntmps166]), (by simp), (by kernel_rfl), ?_⟩
 refine wks ?_
 refine wk0 ?_
 refine callI (c_number b n d hn hd) ?_
 refine wk1 @qr.eq_1 ?_
 refine callI (c_rat _ _ _) ?_
 refine wk0 ?_
 first | trivial | (refine ⟨Or.inr ?_, ?_⟩ <;> simp [cellsOut, cellOut, hsOut, cellKeys, lget, disjB, cleanL, cleanCell, VC, u32s, u32s_len, inL])
def sgn (q : Rat) : Int := if q.num = 0 then 0 else if q.num < 0 then -1 else 1
theorem c_Sign (b : Bool) (n d : List Nat) (hn : Ql n) (hd : Ql d) : CT 163 [.data (fr b n d)] { val := iv .i64 (sgn (ratOf b n d)), args := [.data (fr b n d)] } := by
 refine Ctr.intro ⟨Tryz.f163, _, Tryz.call163, Tryz.func163, fold_body (by rfl) (by kernel_rfl), (by simp [Tryz.ntmps163]), (by simp), (by kernel_rfl), ?_⟩
 refine wks ?_
 refine wk0 ?_
 refine callI (c_number b n d hn hd) ?_
 generalize ratOf b n d = q
 refine wk1 @qr.eq_1 ?_
 refine condK.dec (fun h => ?_) (fun h => ?_)
 ·have h0 : q.num = 0 := by
   have := limbs_eq_nil.1 (List.eq_nil_of_length_eq_zero (l := limbs q.num.natAbs) (by omega))
   omega
  refine wk0 ?_
  exact ⟨vi (by rw [sgn, if_pos h0]), trivial⟩
 ·have h0 : q.num ≠ 0 := fun h0 => h (by rw [h0]; simp [limbs_zero])
  refine wk0 ?_
  refine condK.dec (fun h2 => ?_) (fun h2 => ?_)
  ·refine wk0 ?_
   exact ⟨vi (by rw [sgn, if_neg h0, if_pos h2]), trivial⟩
  ·refine wk0 ?_
   exact ⟨vi (by rw [sgn, if_neg h0, if_neg h2]), trivial⟩
theorem c_combine (b1 b2 : Bool) (n1 n2 d : List Nat) (h1 : Sm n1) (h2 : Sm n2) (hd : Sm d) (hs : Sm (limbs (val n1 + val n2))) (h0 : 0 < val d) :
  CT 217 [.data (bv b1), dat n1, .data (bv b2), dat n2, dat d] { val := qr (mkRat (sg b1 (val n1) + sg b2 (val n2)) (val d)), args := [.data (bv b1), dat n1, .data (bv b2), dat n2, dat d] } := by
 refine Ctr.intro ⟨Tryz.f217, _, Tryz.call217, Tryz.func217, fold_body (by rfl) (by kernel_rfl), (by simp [Tryz.ntmps217]), (by simp), (by kernel_rfl), ?_⟩
 refine wks ?_
 refine wk0 ?_
 by_cases hb : b1 = b2
 ·subst hb
  refine wk0 ?_
  refine callI (c_Add n1 n2 h1 h2) ?_
  refine wk0 ?_
  refine callI (c_reduce b1 _ d hs hd h0) ?_
  have e : ratOf b1 (limbs (val n1 + val n2)) d = mkRat (sg b1 (val n1) + sg b1 (val n2)) (val d) := by
   rw [ratOf, val_limbs]
   congr 1
   cases b1 <;> simp only [sg, if_true, Bool.false_eq_true, if_false] <;> omega
  rw [e]
  refine wk1 @qr.eq_1 ?_
  first | trivial | (refine ⟨Or.inr ?_, ?_⟩ <;> simp [cellsOut, cellOut, hsOut, cellKeys, lget, disjB, cleanL, cleanCell, VC, u32s, u32s_len, inL])
 ·have hbb : (b1 == b2) = false := by simpa using hb
  refine wk1 @hbb ?_
  refine callI (c_Cmp n1 n2 h1.nm h2.nm) ?_
  refine wk0 ?_
  by_cases hlt : val n1 < val n2
  ·rw [cmpN_lt hlt]
   refine wk0 ?_
   refine callI (c_Sub n2 n1 h2 h1) ?_
   rw [if_neg (by omega)]
   refine wk0 ?_
   refine callI (c_reduce b2 _ d (hs.of (by rw [val_limbs]; omega)) hd h0) ?_
   have e : ratOf b2 (limbs (val n2 - val n1)) d = mkRat (sg b1 (val n1) + sg b2 (val n2)) (val d) := by
    rw [ratOf, val_limbs]
    congr 1
    cases b1 <;> cases b2 <;> first | exact absurd rfl hb | (simp only [sg, if_true, Bool.false_eq_true, if_false]; omega)
   rw [e]
   refine wk1 @qr.eq_1 ?_
   first | trivial | (refine ⟨Or.inr ?_, ?_⟩ <;> simp [cellsOut, cellOut, hsOut, cellKeys, lget, disjB, cleanL, cleanCell, VC, u32s, u32s_len, inL])
  ·have hcmp : ¬ cmpN (val n1) (val n2) < 0 := by unfold cmpN; rw [if_neg hlt]; split <;> decide
   refine wk0 ?_
   refine callI (c_Sub n1 n2 h1 h2) ?_
   rw [if_neg (by omega)]
   refine wk0 ?_
   refine callI (c_reduce b1 _ d (hs.of (by rw [val_limbs]; omega)) hd h0) ?_
   have e : ratOf b1 (limbs (val n1 - val n2)) d = mkRat (sg b1 (val n1) + sg b2 (val n2)) (val d) := by
    rw [ratOf, val_limbs]
    congr 1
    cases b1 <;> cases b2 <;> first | exact absurd rfl hb | (simp only [sg, if_true, Bool.false_eq_true, if_false]; omega)
   rw [e]
   refine wk1 @qr.eq_1 ?_
   first | trivial | (refine ⟨Or.inr ?_, ?_⟩ <;> simp [cellsOut, cellOut, hsOut, cellKeys, lget, disjB, cleanL, cleanCell, VC, u32s, u32s_len, inL])
theorem sg_mul (b c : Bool) (m n : Nat) : sg (b != c) (m * n) = sg b m * sg c n := by
 cases b <;> cases c <;> simp [sg, Int.neg_mul, Int.mul_neg]
theorem sg_scale (b : Bool) (m n : Nat) : sg b (m * n) = sg b m * (n : Int) := by
 cases b <;> simp [sg, Int.neg_mul]
theorem add_mk (x y : Rat) : x + y = mkRat (sg (decide (x.num < 0)) (x.num.natAbs * y.den) + sg (decide (y.num < 0)) (y.num.natAbs * x.den)) (x.den * y.den) := by
 have h := Rat.mkRat_add_mkRat x.num y.num x.den_nz y.den_nz
 rw [Rat.mkRat_self, Rat.mkRat_self] at h
 rw [h, sg_scale, sg_scale, sg_num, sg_num]
theorem mul_mk (x y : Rat) : x * y = mkRat (sg (decide (x.num < 0) != decide (y.num < 0)) (x.num.natAbs * y.num.natAbs)) (x.den * y.den) := by
 have h := Rat.mkRat_mul_mkRat x.num y.num x.den y.den
 rw [Rat.mkRat_self, Rat.mkRat_self] at h
 rw [h, sg_mul, sg_num, sg_num]
theorem sum_sm {m n k : Nat} (hm : (limbs m).length ≤ k) (hn : (limbs n).length ≤ k) (hk : k + 1 < 68719476736) : Sm (limbs (m + n)) := ⟨lim_limbs _, by have := limbs_add_len hm hn; omega⟩
theorem c_RAdd (b1 b2 : Bool) (n1 d1 n2 d2 : List Nat) (h1 : Ql n1) (g1 : Ql d1) (h2 : Ql n2) (g2 : Ql d2) : CT 162 [.data (fr b1 n1 d1), .data (fr b2 n2 d2)]
  {val := qr (ratOf b1 n1 d1 + ratOf b2 n2 d2), args := [.data (fr b1 n1 d1), .data (fr b2 n2 d2)] } := by
 refine Ctr.intro ⟨Tryz.f162, _, Tryz.call162, Tryz.func162, fold_body (by rfl) (by kernel_rfl), (by simp [Tryz.ntmps162]), (by simp), (by kernel_rfl), ?_⟩
 refine wks ?_
 refine wk0 ?_
 refine callI (c_number b1 n1 d1 h1 g1) ?_
 refine wk0 ?_
 refine callI (c_number b2 n2 d2 h2 g2) ?_
 have hx := ratOf_size (b := b1) h1 g1
 have hy := ratOf_size (b := b2) h2 g2
 generalize ratOf b1 n1 d1 = x at *
 generalize ratOf b2 n2 d2 = y at *
 refine wk1 @qr.eq_1 ?_
 refine vcalm (by kernel_rfl) ?_
 refine wk0 ?_
 refine callI (c_one _ hx.d.sm.nm) ?_
 refine wk0 ?_
 refine guardK.dec (fun h => ?_) (fun h => ?_)
 ·refine wk0 ?_
  refine callI (c_one _ hy.d.sm.nm) ?_
  refine wk0 ?_
  refine condK.dec (fun h3 => ?_) (fun h3 => ?_)
  ·have e1 : x.den = 1 := by rw [← val_limbs x.den, h]; rfl
   have e2 : y.den = 1 := by rw [← val_limbs y.den, h3]; rfl
   have e := add_mk x y
   rw [e1, e2, Nat.mul_one, Nat.mul_one, Nat.mul_one] at e
   refine wk0 ?_
   refine callI (c_combine _ _ _ _ _ hx.n.sm hy.n.sm hx.d.sm (by rw [val_limbs, val_limbs]; exact sum_sm hx.n.len hy.n.len (by decide)) (by rw [val_limbs]; exact x.den_pos)) ?_
   rw [val_limbs, val_limbs, val_limbs, e1, ← e]
   refine wk1 @qr.eq_1 ?_
   refine callI (c_rat _ _ _) ?_
   refine wk0 ?_
   first | trivial | (refine ⟨Or.inr ?_, ?_⟩ <;> simp [cellsOut, cellOut, hsOut, cellKeys, lget, disjB, cleanL, cleanCell, VC, u32s, u32s_len, inL])
  ·refine wk0 ?_
   refine callI (c_Mul _ _ hx.n.sm hy.d.sm) ?_
   rw [val_limbs, val_limbs]
   refine wk0 ?_
   refine callI (c_Mul _ _ hy.n.sm hx.d.sm) ?_
   rw [val_limbs, val_limbs]
   refine wk0 ?_
   refine callI (c_Mul _ _ hx.d.sm hy.d.sm) ?_
   rw [val_limbs, val_limbs]
   refine wk0 ?_
   have hs2 : Sm (limbs (val (limbs (x.num.natAbs * y.den)) + val (limbs (y.num.natAbs * x.den)))) := by
    rw [val_limbs, val_limbs]
    exact sum_sm (k := 8589934592) (by have := limbs_mul_len x.num.natAbs y.den; have := hx.n.len; have := hy.d.len; omega) (by have := limbs_mul_len y.num.natAbs x.den; have := hy.n.len; have := hx.d.len; omega) (by decide)
   refine callI (c_combine _ _ _ _ _ (hx.n.mul hy.d) (hy.n.mul hx.d) (hx.d.mul hy.d) hs2 (by rw [val_limbs]; exact Nat.mul_pos x.den_pos y.den_pos)) ?_
   rw [val_limbs, val_limbs, val_limbs, ← add_mk]
   refine wk1 @qr.eq_1 ?_
   refine callI (c_rat _ _ _) ?_
   refine wk0 ?_
   refine vcalm (by kernel_rfl) ?_
   refine wk0 ?_
   first | trivial | (refine ⟨Or.inr ?_, ?_⟩ <;> simp [cellsOut, cellOut, hsOut, cellKeys, lget, disjB, cleanL, cleanCell, VC, u32s, u32s_len, inL])
 ·refine wk0 ?_
  refine callI (c_Mul _ _ hx.n.sm hy.d.sm) ?_
  rw [val_limbs, val_limbs]
  refine wk0 ?_
  refine callI (c_Mul _ _ hy.n.sm hx.d.sm) ?_
  rw [val_limbs, val_limbs]
  refine wk0 ?_
  refine callI (c_Mul _ _ hx.d.sm hy.d.sm) ?_
  rw [val_limbs, val_limbs]
  refine wk0 ?_
  have hs2 : Sm (limbs (val (limbs (x.num.natAbs * y.den)) + val (limbs (y.num.natAbs * x.den)))) := by
   rw [val_limbs, val_limbs]
   exact sum_sm (k := 8589934592) (by have := limbs_mul_len x.num.natAbs y.den; have := hx.n.len; have := hy.d.len; omega) (by have := limbs_mul_len y.num.natAbs x.den; have := hy.n.len; have := hx.d.len; omega) (by decide)
  refine callI (c_combine _ _ _ _ _ (hx.n.mul hy.d) (hy.n.mul hx.d) (hx.d.mul hy.d) hs2 (by rw [val_limbs]; exact Nat.mul_pos x.den_pos y.den_pos)) ?_
  rw [val_limbs, val_limbs, val_limbs, ← add_mk]
  refine wk1 @qr.eq_1 ?_
  refine callI (c_rat _ _ _) ?_
  refine wk0 ?_
  refine vcalm (by kernel_rfl) ?_
  refine wk0 ?_
  first | trivial | (refine ⟨Or.inr ?_, ?_⟩ <;> simp [cellsOut, cellOut, hsOut, cellKeys, lget, disjB, cleanL, cleanCell, VC, u32s, u32s_len, inL])
theorem c_RMul (b1 b2 : Bool) (n1 d1 n2 d2 : List Nat) (h1 : Ql n1) (g1 : Ql d1) (h2 : Ql n2) (g2 : Ql d2) : CT 100 [.data (fr b1 n1 d1), .data (fr b2 n2 d2)]
  {val := qr (ratOf b1 n1 d1 * ratOf b2 n2 d2), args := [.data (fr b1 n1 d1), .data (fr b2 n2 d2)] } := by
 refine Ctr.intro ⟨Tryz.f100, _, Tryz.call100, Tryz.func100, fold_body (by rfl) (by kernel_rfl), (by simp [Tryz.ntmps100]), (by simp), (by kernel_rfl), ?_⟩
 refine wks ?_
 refine wk0 ?_
 refine callI (c_number b1 n1 d1 h1 g1) ?_
 refine wk0 ?_
 refine callI (c_number b2 n2 d2 h2 g2) ?_
 have hx := ratOf_size (b := b1) h1 g1
 have hy := ratOf_size (b := b2) h2 g2
 generalize ratOf b1 n1 d1 = x at *
 generalize ratOf b2 n2 d2 = y at *
 have e := mul_mk x y
 have f1 := hx.n.mul hy.n
 have f2 := hx.d.mul hy.d
 refine wk1 @qr.eq_1 ?_
 refine vcalm (by kernel_rfl) ?_
 refine wk0 ?_
 refine callI (c_Mul _ _ hx.n.sm hy.n.sm) ?_
 rw [val_limbs, val_limbs]
 refine wk0 ?_
 refine callI (c_Mul _ _ hx.d.sm hy.d.sm) ?_
 rw [val_limbs, val_limbs]
 refine wk0 ?_
 refine callI (c_reduce _ _ _ f1 f2 (by rw [val_limbs]; exact Nat.mul_pos x.den_pos y.den_pos)) ?_
 rw [ratOf, val_limbs, val_limbs, ← e]
 refine wk1 @qr.eq_1 ?_
 refine callI (c_rat _ _ _) ?_
 refine wk0 ?_
 refine vcalm (by kernel_rfl) ?_
 refine wk0 ?_
 first | trivial | (refine ⟨Or.inr ?_, ?_⟩ <;> simp [cellsOut, cellOut, hsOut, cellKeys, lget, disjB, cleanL, cleanCell, VC, u32s, u32s_len, inL])
theorem wneg_u64 {n : Nat} (h : n < 18446744073709551616) : IntKind.u64.wrap (0 - (n : Int)) = (((18446744073709551616 - n) % 18446744073709551616 : Nat) : Int) := by
 rw [IntKind.wrap]; simp [IntKind.bits, IntKind.signed]; omega
theorem wu64_int {n : Int} (h : -9223372036854775808 ≤ n ∧ n < 9223372036854775808) : IntKind.u64.wrap n = (((n + 18446744073709551616) % 18446744073709551616).toNat : Int) := by
 rw [IntKind.wrap]; simp [IntKind.bits, IntKind.signed]; omega
theorem c_magnitude (n : Int) (h : -9223372036854775808 ≤ n ∧ n < 9223372036854775808) : CT 92 [.data (iv .i64 n)] { val := .tup [bv (decide (n < 0)), .sl 1 (u32s (limbs n.natAbs))], args := [.data (iv .i64 n)] } := by
 have hm : ∀ m : Nat, m < 18446744073709551616 → val [m % 4294967296, m / 4294967296 % 4294967296] = m := fun m hm => by rw [val_pair]; omega
 obtain ⟨u, hu⟩ : ∃ u, u = ((n + 18446744073709551616) % 18446744073709551616).toNat := ⟨_, rfl⟩
 have hu2 : u < 18446744073709551616 := by omega
 have hw : IntKind.u64.wrap n = (u : Int) := by rw [hu]; exact wu64_int h
 refine Ctr.intro ⟨Tryz.f92, _, Tryz.call92, Tryz.func92, fold_body (by rfl) (by kernel_rfl), (by simp [Tryz.ntmps92]), (by simp), (by kernel_rfl), ?_⟩
 refine wks ?_
 refine wk1 @hw ?_
 refine condK.dec (fun h2 => ?_) (fun h2 => ?_)
 ·have e : (18446744073709551616 - u) % 18446744073709551616 = n.natAbs := by omega
  refine wk2 (wneg_u64 hu2) @e ?_
  refine callI (c_Trim [n.natAbs % 4294967296, n.natAbs / 4294967296 % 4294967296] ⟨Lim.cons (Nat.mod_lt _ (by decide)) (Lim.cons (Nat.mod_lt _ (by decide)) Lim.nil), by simp⟩) ?_
  rw [hm _ (by omega)]
  refine wk0 ?_
  trivial
 ·have e : u = n.natAbs := by omega
  subst e
  refine wk0 ?_
  refine callI (c_Trim [n.natAbs % 4294967296, n.natAbs / 4294967296 % 4294967296] ⟨Lim.cons (Nat.mod_lt _ (by decide)) (Lim.cons (Nat.mod_lt _ (by decide)) Lim.nil), by simp⟩) ?_
  rw [hm _ (by omega)]
  refine wk0 ?_
  trivial
theorem c_Int (n : Int) (h : -9223372036854775808 ≤ n ∧ n < 9223372036854775808) : CT 44 [.data (iv .i64 n)] { val := qr (n : Rat), args := [.data (iv .i64 n)] } := by
 refine Ctr.intro ⟨Tryz.f44, _, Tryz.call44, Tryz.func44, fold_body (by rfl) (by kernel_rfl), (by simp [Tryz.ntmps44]), (by simp), (by kernel_rfl), ?_⟩
 refine wks ?_
 refine wk0 ?_
 refine callI (c_magnitude n h) ?_
 have hp2 : pw 2 = 18446744073709551616 := by decide
 have hl2 := limbs_len_le (n := n.natAbs) (k := 2) (by omega)
 have hs : Sm (limbs n.natAbs) := ⟨lim_limbs _, by omega⟩
 refine wk0 ?_
 refine callI (c_reduce _ _ [1] hs ⟨Lim.cons (by decide) Lim.nil, by simp⟩ (by decide)) ?_
 have e : ratOf (decide (n < 0)) (limbs n.natAbs) [1] = (n : Rat) := by
  rw [ratOf, val_limbs, sg_num]
  exact Rat.mkRat_one n
 rw [e]
 refine wk1 @qr.eq_1 ?_
 refine callI (c_rat _ _ _) ?_
 refine wk0 ?_
 first | trivial | (refine ⟨Or.inr ?_, ?_⟩ <;> simp [cellsOut, cellOut, hsOut, cellKeys, lget, disjB, cleanL, cleanCell, VC, u32s, u32s_len, inL])
end Go.Proofs.YteipiejlljnclaaGreatDoor
