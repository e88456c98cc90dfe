/- Fractions: what a fraction is in the program, and the program's functions of package rational. Conditions stand in each: limbs below 2^32, at most 2^32 of them. -/
import Derived.Test.YteipiejlljnclaaGreatDoorRCg
import Derived.Test.YteipiejlljnclaaGreatDoorRCn
set_option linter.unusedVariables false
set_option linter.unusedSimpArgs false
set_option maxRecDepth 10000
set_option maxHeartbeats 4000000
namespace Go.Proofs.YteipiejlljnclaaGreatDoor
open Go Go.AL
attribute [local irreducible] run opK opD callK
@[go_sem] abbrev bv (b : Bool) : AV := .sc (.bool b)
theorem gd_cons0 (a : Nat) (l : List Nat) : gd (a :: l) 0 = a := by simp [gd]
attribute [go_sem] gd_cons0
@[go_sem] abbrev fr (neg : Bool) (n d : List Nat) : AV := .agg [bv neg, .sl 1 (u32s n), .sl 1 (u32s d)]
def qr (q : Rat) : AV := fr (decide (q.num < 0)) (limbs q.num.natAbs) (limbs q.den)
def sg (neg : Bool) (n : Nat) : Int := if neg then -(n : Int) else n
def ratOf (neg : Bool) (n d : List Nat) : Rat := mkRat (sg neg (val n)) (val d)
theorem sg_natAbs (b : Bool) (n : Nat) : (sg b n).natAbs = n := by cases b <;> simp [sg]
theorem qr_mk (b : Bool) (n d : Nat) (hd : 0 < d) (hn : 0 < n) : qr (mkRat (sg b n) d) = fr b (limbs (n / n.gcd d)) (limbs (d / n.gcd d)) := by
 have hg : 0 < n.gcd d := Nat.gcd_pos_of_pos_left _ hn
 have h1 : (mkRat (sg b n) d).num = sg b n / (n.gcd d : Nat) := by
  rw [Rat.num_mkRat, if_neg (by omega), sg_natAbs, Nat.gcd_comm]
 have h2 : (mkRat (sg b n) d).den = d / n.gcd d := by
  rw [Rat.den_mkRat, if_neg (by omega), sg_natAbs, Nat.gcd_comm]
 have hdv : n / n.gcd d * n.gcd d = n := Nat.div_mul_cancel (Nat.gcd_dvd_left _ _)
 have hq : 0 < n / n.gcd d := Nat.div_pos (Nat.le_of_dvd hn (Nat.gcd_dvd_left _ _)) hg
 have h3 : sg b n / (n.gcd d : Nat) = sg b (n / n.gcd d) := by
  cases b
  ·simp [sg]
  ·simp only [sg, if_true]
   have : -(n : Int) = -((n / n.gcd d : Nat) : Int) * (n.gcd d : Nat) := by
    rw [Int.neg_mul, ← Int.natCast_mul, hdv]
   rw [this, Int.mul_ediv_cancel _ (by omega)]
 unfold qr
 rw [h1, h2, h3, sg_natAbs]
 have h4 : decide (sg b (n / n.gcd d) < 0) = b := by
  cases b
  ·simp only [sg, Bool.false_eq_true, if_false]; exact decide_eq_false (by omega)
  ·simp only [sg, if_true]; exact decide_eq_true (by omega)
 rw [h4]
theorem qr_zero : qr 0 = fr false [] [1] := by
 unfold qr
 have h1 : (0 : Rat).num = 0 := rfl
 have h2 : (0 : Rat).den = 1 := rfl
 rw [h1, h2]
 simp [limbs_zero, limbs_one]
theorem mk_zero (b : Bool) (d : Nat) : mkRat (sg b 0) d = 0 := by
 have : sg b 0 = 0 := by cases b <;> rfl
 rw [this]
 exact Rat.zero_mkRat d
theorem limbs_mul_len (m n : Nat) : (limbs (m * n)).length ≤ (limbs m).length + (limbs n).length := by
 refine limbs_len_le ?_
 rw [pw_add]
 exact Nat.mul_lt_mul_of_lt_of_le (lt_pw_limbs m) (Nat.le_of_lt (lt_pw_limbs n)) (pw_pos _)
theorem limbs_add_len {m n k : Nat} (hm : (limbs m).length ≤ k) (hn : (limbs n).length ≤ k) : (limbs (m + n)).length ≤ k + 1 := by
 refine limbs_len_le ?_
 have h1 := Nat.lt_of_lt_of_le (lt_pw_limbs m) (pw_le hm)
 have h2 := Nat.lt_of_lt_of_le (lt_pw_limbs n) (pw_le hn)
 rw [pw_succ]
 omega
theorem c_isZero (l : List Nat) (h : Nm l) : CT 220 [dat l] { val := bv (decide (val l = 0)), args := [dat l] } := by
 refine Ctr.intro ⟨Tryz.f220, _, Tryz.call220, Tryz.func220, fold_body (by rfl) (by kernel_rfl), (by simp [Tryz.ntmps220]), (by simp), (by kernel_rfl), ?_⟩
 refine wks ?_
 refine wk0 ?_
 refine callI (c_Cmp l [] h ⟨Lim.nil, by simp⟩) ?_
 refine wk0 ?_
 refine ⟨?_, trivial⟩
 have e : (cmpN (val l) (val []) = 0) ↔ val l = 0 := by
  rw [val_nil]
  unfold cmpN
  by_cases h0 : val l = 0
  ·rw [h0]; decide
  ·rw [if_neg (by omega), if_neg h0]; exact ⟨fun h => absurd h (by decide), fun h => absurd h h0⟩
 rw [decide_eq_decide.2 e]
theorem c_one (l : List Nat) (h : Nm l) : CT 216 [dat l] { val := bv (decide (l = [1])), args := [dat l] } := by
 have hl := h.len
 have h1 := h.lim.gd 0
 refine Ctr.intro ⟨Tryz.f216, _, Tryz.call216, Tryz.func216, fold_body (by rfl) (by kernel_rfl), (by simp [Tryz.ntmps216]), (by simp), (by kernel_rfl), ?_⟩
 refine wks ?_
 refine wk0 ?_
 refine guardK.dec (fun h2 => ?_) (fun h2 => ?_)
 ·refine wk0 ?_
  refine ⟨?_, trivial⟩
  have h3 : l.length = 1 := by omega
  match l, h3 with
  | [d], _ =>
   have e : ((gd [d] 0 : Nat) : Int) = 1 ↔ [d] = [1] := by simp [gd]; omega
   rw [decide_eq_decide.2 e]
 ·refine wk0 ?_
  refine ⟨?_, trivial⟩
  have : ¬ l = [1] := fun h => h2 (by rw [h]; rfl)
  simp [this]
theorem c_reduce (b : Bool) (n d : List Nat) (hn : Sm n) (hd : Sm d) (h0 : 0 < val d) : CT 93 [.data (bv b), dat n, dat d]
  {val := qr (ratOf b n d), args := [.data (bv b), dat n, dat d] } := by
 refine Ctr.intro ⟨Tryz.f93, _, Tryz.call93, Tryz.func93, fold_body (by rfl) (by kernel_rfl), (by simp [Tryz.ntmps93]), (by simp), (by kernel_rfl), ?_⟩
 refine wks ?_
 refine wk0 ?_
 refine callI (c_Trim n hn.nm) ?_
 refine wk0 ?_
 refine callI (c_Trim d hd.nm) ?_
 refine wk0 ?_
 refine condK.dec (fun h1 => ?_) (fun h1 => ?_)
 ·have hz : val n = 0 := limbs_eq_nil.1 (List.eq_nil_of_length_eq_zero (by omega))
  have e : ratOf b n d = 0 := by rw [ratOf, hz, mk_zero]
  rw [e, qr_zero]
  refine wk0 ?_
  first | trivial | (refine ⟨Or.inr ?_, ?_⟩ <;> simp [cellsOut, cellOut, hsOut, cellKeys, lget, disjB, cleanL, cleanCell, VC, u32s, u32s_len, inL])
 ·have hnz : 0 < val n := Nat.pos_of_ne_zero fun h => h1 (by rw [h, limbs_zero]; rfl)
  have e : qr (ratOf b n d) = _ := qr_mk b (val n) (val d) h0 hnz
  rw [e]
  refine wk0 ?_
  refine callI (c_GCD (limbs (val n)) (limbs (val d)) hn.limbs hd.limbs) ?_
  rw [val_limbs, val_limbs]
  have hgp : 0 < (val n).gcd (val d) := Nat.gcd_pos_of_pos_left _ hnz
  have hgs : Sm (limbs ((val n).gcd (val d))) := hn.of (Nat.le_of_dvd hnz (Nat.gcd_dvd_left _ _))
  have hlast := @limbs_last ((val n).gcd (val d))
  have hgl := val_limbs ((val n).gcd (val d))
  by_cases hg1 : (val n).gcd (val d) = 1
  ·rw [hg1, limbs_one]
   refine wk0 ?_
   rw [Nat.div_one, Nat.div_one]
   first | trivial | (refine ⟨Or.inr ?_, ?_⟩ <;> simp [cellsOut, cellOut, hsOut, cellKeys, lget, disjB, cleanL, cleanCell, VC, u32s, u32s_len, inL])
  ·have PK : VC ((val n).gcd (val d) ≠ 1) := hg1
   have h0' := hgs.lim.gd 0
   refine wk0 ?_
   refine guardK.decF (fun h2 => ?_) (fun h2 => ?_)
   ·have h3 : ¬ ((gd (limbs ((val n).gcd (val d))) 0 : Nat) : Int) = 1 := by
     intro h4
     have h5 : (limbs ((val n).gcd (val d))).length = 1 := by omega
     have h6 : val (limbs ((val n).gcd (val d))) = 1 := by
      match limbs ((val n).gcd (val d)), h5, h4 with
      | [x], _, h4 => simp [gd] at h4; simp [val]; omega
     exact hg1 (by rw [← hgl, h6])
    refine wk0 ?_
    refine callI (c_DivMod (limbs (val n)) (limbs ((val n).gcd (val d))) hn.limbs hgs (by rw [hgl]; exact hgp)) ?_
    rw [val_limbs, hgl]
    refine wk0 ?_
    refine callI (c_DivMod (limbs (val d)) (limbs ((val n).gcd (val d))) hd.limbs hgs (by rw [hgl]; exact hgp)) ?_
    rw [val_limbs, hgl]
    refine wk0 ?_
    first | trivial | (refine ⟨Or.inr ?_, ?_⟩ <;> simp [cellsOut, cellOut, hsOut, cellKeys, lget, disjB, cleanL, cleanCell, VC, u32s, u32s_len, inL])
   ·refine wk0 ?_
    refine callI (c_DivMod (limbs (val n)) (limbs ((val n).gcd (val d))) hn.limbs hgs (by rw [hgl]; exact hgp)) ?_
    rw [val_limbs, hgl]
    refine wk0 ?_
    refine callI (c_DivMod (limbs (val d)) (limbs ((val n).gcd (val d))) hd.limbs hgs (by rw [hgl]; exact hgp)) ?_
    rw [val_limbs, hgl]
    refine wk0 ?_
    first | trivial | (refine ⟨Or.inr ?_, ?_⟩ <;> simp [cellsOut, cellOut, hsOut, cellKeys, lget, disjB, cleanL, cleanCell, VC, u32s, u32s_len, inL])
end Go.Proofs.YteipiejlljnclaaGreatDoor
