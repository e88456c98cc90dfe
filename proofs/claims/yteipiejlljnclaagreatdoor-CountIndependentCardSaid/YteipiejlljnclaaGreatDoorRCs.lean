/- The oracle's natural numbers (exactpplref01): division with remainder, the greatest common divisor, from machine numbers. Conditions: limbs below 2^32, fewer than 2^36. -/
import Derived.Test.YteipiejlljnclaaGreatDoorRCq
set_option linter.unusedVariables false
set_option linter.unusedSimpArgs false
set_option maxRecDepth 10000
set_option maxHeartbeats 4000000
namespace Go.Proofs.YteipiejlljnclaaGreatDoor
open Go Go.AL
attribute [local irreducible] run opK opD callK
theorem leaves_len (u v : List Nat) (J : Nat) : (leaves u v J).length = u.length := fixL_len _ _
theorem leaves_lim (u v : List Nat) (J : Nat) : Lim (leaves u v J) := fixL_lim _ _
theorem leaves_facts {u v : List Nat} {J : Nat} (hU : Lim u) (hV : 0 < val v) : val u = val (leaves u v J) + pw J * (val (u.drop J) / val v * val v) ∧ val ((leaves u v J).drop J) < val v := by
 have h1 := vsplit u J
 have h2 := Nat.div_add_mod (val (u.drop J)) (val v)
 have h3 := Nat.mod_lt (val (u.drop J)) hV
 have h4 : pw J * val (u.drop J) = pw J * (val (u.drop J) / val v * val v) + pw J * (val (u.drop J) % val v) := by
  rw [← Nat.mul_add, Nat.mul_comm (val (u.drop J) / val v), h2]
 have hx : val u - pw J * (val (u.drop J) / val v * val v) = val (u.take J) + pw J * (val (u.drop J) % val v) := by omega
 have hv : val (leaves u v J) = val (u.take J) + pw J * (val (u.drop J) % val v) := by
  unfold leaves
  rw [hx, fixL_val]
  have := val_lt hU
  omega
 refine ⟨by rw [hv]; omega, ?_⟩
 have h5 := vsplit (leaves u v J) J
 have h6 := val_take_lt (leaves_lim u v J) J
 have h7 := val_take_lt hU J
 have e1 : val (leaves u v J) / pw J = val ((leaves u v J).drop J) := by rw [h5, Nat.add_mul_div_left _ _ (pw_pos J), Nat.div_eq_of_lt h6, Nat.zero_add]
 have e2 : val (leaves u v J) / pw J = val (u.drop J) % val v := by rw [hv, Nat.add_mul_div_left _ _ (pw_pos J), Nat.div_eq_of_lt h7, Nat.zero_add]
 omega
theorem shl_u32 {a k : Nat} (h : k < 32 ∧ a * 2 ^ k < 4294967296) : IntKind.u32.wrap ((a : Int) * 2 ^ min k 32) = ((a * 2 ^ k : Nat) : Int) := by
 have : min k 32 = k := by omega
 rw [this]
 have e : (a : Int) * 2 ^ k = ((a * 2 ^ k : Nat) : Int) := by simp
 rw [e, wu32_nat, Nat.mod_eq_of_lt h.2]
theorem c_DivMod1 (a b : List Nat) (ha : Sm a) (hb : Sm b) (h0 : 0 < val b) : CT 227 [dat a, dat b]
  {val := .tup [.sl 1 (u32s (limbs (val a / val b))), .sl 1 (u32s (limbs (val a % val b))), iv .i64 0], args := [dat a, dat b] } := by
 refine Ctr.intro ⟨Tryz.f227, _, Tryz.call227, Tryz.func227, fold_body (by rfl) (by kernel_rfl), (by simp [Tryz.ntmps227]), (by simp), (by kernel_rfl), ?_⟩
 refine wks ?_
 refine wk0 ?_
 refine callI (c_Trim1 a ha.nm) ?_
 refine wk0 ?_
 refine callI (c_Trim1 b hb.nm) ?_
 have lab := @limbs_len_mono (val b) (val a)
 have lb := @limbs_last (val b)
 obtain ⟨x, ex, vx, hx⟩ : ∃ x, x = limbs (val a) ∧ val x = val a ∧ Sm x := ⟨_, rfl, val_limbs _, ha.limbs⟩
 obtain ⟨y, ey, vy, hy⟩ : ∃ y, y = limbs (val b) ∧ val y = val b ∧ Sm y := ⟨_, rfl, val_limbs _, hb.limbs⟩
 have hne : y ≠ [] := fun h => by rw [ey, limbs_eq_nil] at h; omega
 rw [← ex, ← ey] at lab ⊢
 rw [← ey] at lb
 rw [← vx, ← vy] at lab ⊢
 rw [← vy] at h0
 have exl : limbs (val x) = x := by rw [vx, ex]
 clear ex ey vx vy ha hb
 have hylen : ¬ (y.length : Int) = 0 := fun h => hne (List.eq_nil_of_length_eq_zero (by omega))
 have hxl := hx.len
 have hyl := hy.len
 refine wk0 ?_
 refine callI (c_Cmp1 x y hx.nm hy.nm) ?_
 by_cases hlt : val x < val y
 ·rw [cmpN_lt hlt]
  refine wk0 ?_
  rw [Nat.div_eq_of_lt hlt, Nat.mod_eq_of_lt hlt, limbs_zero, exl]
  exact ⟨by simp [u32s], trivial⟩
 ·have hcmp : ¬ cmpN (val x) (val y) < 0 := by unfold cmpN; rw [if_neg hlt]; split <;> decide
  refine wk0 ?_
  refine condK.dec (fun h1 => ?_) (fun h1 => ?_)
  ·have hd := hy.lim.gd 0
   have hyv : val y = gd y 0 := by
    have h2 : y.length = 1 := by omega
    match y, h2 with
    | [d], _ => simp [val, gd]
   refine wk0 ?_
   refine callI (c_short1 x (gd y 0) hx ⟨by omega, hd⟩) ?_
   have hm : val x % gd y 0 < 4294967296 := Nat.lt_trans (Nat.mod_lt _ (by omega)) (by omega)
   refine wk0 ?_
   refine callI (c_Trim1 [val x % gd y 0] ⟨Lim.cons hm Lim.nil, by simp⟩) ?_
   refine wk0 ?_
   rw [hyv, val_single]
   trivial
  ·obtain ⟨N, hN⟩ : ∃ N, y.length = N + 2 := ⟨y.length - 2, by omega⟩
   have htop := hy.lim.gd (N + 1)
   have hne2 := lb hN
   have hmn : N + 2 ≤ x.length := by have := lab (by omega); omega
   have e1 : y.length - 1 = N + 1 := by omega
   clear lab lb hne hcmp
   refine wk1 @e1 ?_
   refine run_loop [0, 1, 9] [] (α := {k : Nat // k < 32 ∧ VC (gd y (N + 1) * 2 ^ k < 4294967296)})
    (fun k => ⟨[(0, .sl 1 (u32s x)), (1, .sl 1 (u32s y)), (9, iv .i64 k.1)], []⟩) (fun k => 32 - k.1) ⟨0, by decide, by simpa [VC] using htop⟩ rfl ?_
   rintro ⟨k, hk, hk2⟩
   dsimp only
   have hsh := shl_u32 ⟨hk, hk2⟩
   refine wk2 @e1 @hsh ?_
   refine condK.dec (fun h3 => ?_) (fun h3 => ?_)
   ·have hk3 : VC (gd y (N + 1) * 2 ^ (k + 1) < 4294967296) := by
     rw [Nat.pow_succ, ← Nat.mul_assoc]; simp only [VC]; omega
    have hk4 : k + 1 < 32 := by
     refine Classical.byContradiction fun hn => ?_
     have h5 : k + 1 = 32 := by omega
     rw [h5] at hk3
     simp only [VC] at hk3
     omega
    clear hsh hk2
    refine wk0 ?_
    exact ⟨⟨k + 1, hk4, hk3⟩, rfl, by simp only; omega⟩
   ·have hnorm : 2147483648 ≤ gd y (N + 1) * 2 ^ k ∧ (gd y (N + 1) + 1) * 2 ^ k ≤ 4294967296 := by
     refine ⟨by omega, ?_⟩
     have h5 : (4294967296 : Nat) = 2 ^ (32 - k) * 2 ^ k := by rw [← Nat.pow_add, Nat.sub_add_cancel (by omega)]
     have h6 := hk2
     simp only [VC] at h6
     rw [h5] at h6 ⊢
     have h7 := Nat.lt_of_mul_lt_mul_right h6
     exact Nat.mul_le_mul_right _ h7
    clear hsh hk2 h3
    refine wk0 ?_
    refine callI (c_shift1 x k hx hk) ?_
    refine wk0 ?_
    refine callI (c_shift1 y k hy hk) ?_
    have hvb : val y * 2 ^ k < pw (y.length + 1) := by
     have h1 := val_lt hy.lim
     have h2 : 2 ^ k < 2 ^ 32 := Nat.pow_lt_pow_right (by decide) hk
     rw [pw_succ]
     exact Nat.mul_lt_mul_of_lt_of_le h1 (Nat.le_of_lt h2) (by decide)
    refine wk1 @fixL_len ?_
    refine callI (c_Trim1 _ ⟨(fixL_lim _ _).take _, by simp only [List.length_take, fixL_len]; omega⟩) ?_
    have hlv : limbs (val ((fixL (y.length + 1) (val y * 2 ^ k)).take (y.length + 1))) = limbs (val y * 2 ^ k) := by
     rw [List.take_of_length_le (by rw [fixL_len]; exact Nat.le_refl _), fixL_val _ _ hvb]
    rw [hlv]
    obtain ⟨hvn, hvt⟩ := norm_facts (k := k) hy.lim hN hnorm.1 hnorm.2
    have hvL := lim_limbs (val y * 2 ^ k)
    have hvv := val_limbs (val y * 2 ^ k)
    have hp2 : 0 < 2 ^ k := Nat.pow_pos (by decide)
    have hVp : 0 < val y * 2 ^ k := Nat.mul_pos h0 hp2
    rw [← hvv] at hVp
    have hres : val x / val y = val x * 2 ^ k / val (limbs (val y * 2 ^ k)) ∧ val x % val y = val x * 2 ^ k % val (limbs (val y * 2 ^ k)) / 2 ^ k := by
     rw [hvv]
     refine ⟨(Nat.mul_div_mul_right _ _ hp2).symm, ?_⟩
     rw [Nat.mul_mod_mul_right, Nat.mul_div_cancel _ hp2]
    rw [hres.1, hres.2]
    have huL := fixL_lim (x.length + 1) (val x * 2 ^ k)
    have hun := fixL_len (x.length + 1) (val x * 2 ^ k)
    have huv : val (fixL (x.length + 1) (val x * 2 ^ k)) = val x * 2 ^ k := by
     refine fixL_val _ _ ?_
     have h1 := val_lt hx.lim
     have h2 : 2 ^ k < 2 ^ 32 := Nat.pow_lt_pow_right (by decide) hk
     rw [pw_succ]
     exact Nat.mul_lt_mul_of_lt_of_le h1 (Nat.le_of_lt h2) (by decide)
    have hutop : val ((fixL (x.length + 1) (val x * 2 ^ k)).drop (x.length + 1 - (limbs (val y * 2 ^ k)).length)) < val (limbs (val y * 2 ^ k)) := top_small hvL hvn hvt hmn (val_lt hx.lim) hk huv
    clear hlv hvv hres hvb
    generalize limbs (val y * 2 ^ k) = v at *
    generalize fixL (x.length + 1) (val x * 2 ^ k) = u0 at *
    rw [← huv]
    have hvlen : v.length < 68719476736 := by omega
    have hvyl : v.length = y.length := by omega
    have PK0 : VC (val u0 = val x * 2 ^ k ∧ 0 < val v) := ⟨huv, hVp⟩
    have PK1 : VC (val (u0.drop (x.length + 1 - v.length)) < val v) := hutop
    have hq1 : ((x.length : Int) - (y.length : Int) + 1) = ((x.length + 1 - v.length : Nat) : Int) := by omega
    have hqn : x.length + 1 - v.length < 68719476736 := by omega
    clear huv hVp hutop hp2 hnorm hne2 htop e1
    refine wk1 @hq1 ?_
    refine run_loop [9, 10, 11, 12, 13] [55, 66] (α := {s : Nat × List Nat × List Nat // s.1 ≤ x.length + 1 - v.length ∧ s.2.1.length = x.length + 1 ∧ s.2.2.length = x.length + 1 - v.length ∧ Lim s.2.1 ∧ Lim s.2.2 ∧ VC (val u0 = val v * (pw s.1 * val (s.2.2.drop s.1)) + val s.2.1 ∧ val (s.2.1.drop s.1) < val v)})
     (fun s => ⟨[(9, iv .i64 k), (10, .hs ⟨55, 1⟩ 0 (x.length + 1)), (11, .sl 1 (u32s v)), (12, .hs ⟨66, 1⟩ 0 (x.length + 1 - v.length)), (13, iv .i64 ((s.1.1 : Int) - 1))],
      [(55, ⟨1, true, false, .cells 1 (u32s s.1.2.1)⟩), (66, ⟨1, true, false, .cells 1 (u32s s.1.2.2)⟩)]⟩)
     (fun s => s.1.1) ⟨(x.length + 1 - v.length, u0, List.replicate (x.length + 1 - v.length) 0), Nat.le_refl _, hun, List.length_replicate, huL, Lim.zeros _, by simp [val]; exact PK1⟩ rfl ?_
    rintro ⟨⟨J, u, q⟩, hJ, hul, hql, hU, hQ, PK2⟩
    simp only at hJ hul hql hU hQ PK2
    dsimp only
    clear PK1
    cases J with
    | zero =>
     refine wk0 ?_
     refine callI (c_Trim1 _ ⟨hQ.take _, by simp only [List.length_take]; omega⟩) ?_
     refine wk0 ?_
     refine callI (c_unshift1 _ k ⟨hU.take _, by simp only [List.length_take]; exact Nat.lt_of_le_of_lt (Nat.min_le_left _ _) (by omega)⟩ hk) ?_
     refine wk0 ?_
     have hpz : pw 0 = 1 := rfl
     obtain ⟨hv1, hv2⟩ := PK2
     rw [hpz, Nat.one_mul, List.drop_zero] at hv1
     rw [List.drop_zero] at hv2
     have q1 : val u0 / val v = val q := by rw [hv1, Nat.mul_add_div PK0.2, Nat.div_eq_of_lt hv2, Nat.add_zero]
     have q2 : val u0 % val v = val u := by rw [hv1, Nat.mul_add_mod, Nat.mod_eq_of_lt hv2]
     exact ⟨⟨u32s_congr (by rw [List.take_of_length_le (by omega), q1]), u32s_congr (by rw [List.take_of_length_le (by omega), q2])⟩, trivial⟩
    | succ j =>
     refine wk0 ?_
     have htk : u.take (x.length + 1) = u := List.take_of_length_le (by omega)
     rw [htk]
     refine callI (c_digit u v j N ⟨hU, by omega⟩ ⟨hvL, hvlen⟩ hvn (by omega) hvt PK2.2) ?_
     have hg : val (u.drop j) / val v < 4294967296 := (lead_of hU hvL hvn (by omega) hvt PK2.2).q_lt
     obtain ⟨f1, f2⟩ := leaves_facts (u := u) (v := v) (J := j) hU PK0.2
     have f3 := leaves_lim u v j
     have f4 := leaves_len u v j
     have hrv := round_val (q := q) (by omega) PK2.1 f1
     generalize leaves u v j = u2 at *
     generalize val (u.drop j) / val v = g at *
     have PK3 : VC _ := hrv
     clear hrv f1
     refine wk0 ?_
     exact ⟨⟨(j, u2, q.set j g), by simp only; omega, by simp only [f4, hul], by simp [hql], f3, hQ.set _ hg, PK3, f2⟩, rfl, by simp⟩
theorem c_GCD1 (a b : List Nat) (ha : Sm a) (hb : Sm b) : CT 226 [dat a, dat b] { val := .sl 1 (u32s (limbs (Nat.gcd (val a) (val b)))), args := [dat a, dat b] } := by
 refine Ctr.intro ⟨Tryz.f226, _, Tryz.call226, Tryz.func226, fold_body (by rfl) (by kernel_rfl), (by simp [Tryz.ntmps226]), (by simp), (by kernel_rfl), ?_⟩
 refine wks ?_
 refine wk0 ?_
 refine callI (c_Trim1 a ha.nm) ?_
 refine wk0 ?_
 refine callI (c_Trim1 b hb.nm) ?_
 refine wk0 ?_
 refine run_loop [0, 1] [] (α := {s : Nat × Nat // Sm (limbs s.1) ∧ Sm (limbs s.2) ∧ Nat.gcd s.1 s.2 = Nat.gcd (val a) (val b)})
  (fun s => ⟨[(0, .sl 1 (u32s (limbs s.1.1))), (1, .sl 1 (u32s (limbs s.1.2)))], []⟩) (fun s => s.1.2) ⟨(val a, val b), ha.limbs, hb.limbs, rfl⟩ rfl ?_
 rintro ⟨⟨m, n⟩, hm, hn, hg⟩
 simp only at hm hn hg
 have vm := val_limbs m
 have vn := val_limbs n
 refine wk0 ?_
 have PK : VC (val (limbs m) = m ∧ val (limbs n) = n ∧ m.gcd n = (val a).gcd (val b)) := ⟨vm, vn, hg⟩
 clear vm vn hg
 refine condK.dec (fun h1 => ?_) (fun h1 => ?_)
 ·have hn0 : 0 < n := Nat.pos_of_ne_zero fun h => by rw [h, limbs_zero] at h1; exact absurd h1 (by decide)
  refine wk0 ?_
  refine callI (c_DivMod1 (limbs m) (limbs n) hm hn (by rw [PK.2.1]; exact hn0)) ?_
  rw [PK.1, PK.2.1]
  refine wk0 ?_
  refine ⟨⟨(n, m % n), hn, ?_, ?_⟩, rfl, Nat.mod_lt _ hn0⟩
  ·refine ⟨lim_limbs _, Nat.lt_of_le_of_lt (limbs_len_mono (n := n) (Nat.le_of_lt (Nat.mod_lt _ hn0))) hn.len⟩
  ·simp only
   rw [← PK.2.2, Nat.gcd_comm m n, Nat.gcd_rec n m, Nat.gcd_comm]
 ·have hn0 : n = 0 := limbs_eq_nil.1 (List.eq_nil_of_length_eq_zero (by omega))
  refine wk0 ?_
  refine ⟨u32s_congr ?_, trivial⟩
  rw [← PK.2.2, hn0, Nat.gcd_zero_right]
theorem band_int {a : Nat} (h : a < 9223372036854775808) : ibits .and .i64 (a : Int) 4294967295 = ((a % 4294967296 : Nat) : Int) := by
 have h0 : (4294967295 : Int) = ((4294967295 : Nat) : Int) := rfl
 have h1 : a &&& 4294967295 < 2 ^ 32 := Nat.and_lt_two_pow _ (by decide)
 rw [h0]
 show IntKind.i64.wrap (((BitVec.ofInt 64 (a : Int)) &&& (BitVec.ofInt 64 ((4294967295 : Nat) : Int))).toNat : Int) = _
 rw [BitVec.ofInt_natCast, BitVec.ofInt_natCast, BitVec.toNat_and, BitVec.toNat_ofNat, BitVec.toNat_ofNat, Nat.mod_eq_of_lt (by omega), Nat.mod_eq_of_lt (by omega), wi64_nat (by omega), and_lo]
theorem c_FromInt1 (n : Nat) (h : n < 9223372036854775808) : CT 83 [.data (iv .i64 n)] { val := .tup [.sl 1 (u32s (limbs n)), iv .i64 0], args := [.data (iv .i64 n)] } := by
 have hv : val [n % 4294967296, n / 4294967296 % 4294967296] = n := by rw [val_pair]; omega
 refine Ctr.intro ⟨Tryz.f83, _, Tryz.call83, Tryz.func83, fold_body (by rfl) (by kernel_rfl), (by simp [Tryz.ntmps83]), (by simp), (by kernel_rfl), ?_⟩
 refine wks ?_
 refine wk2 @band_int @Nat.mod_mod ?_
 refine callI (c_Trim1 [n % 4294967296, n / 4294967296 % 4294967296] ⟨Lim.cons (Nat.mod_lt _ (by decide)) (Lim.cons (Nat.mod_lt _ (by decide)) Lim.nil), by simp⟩) ?_
 refine wk0 ?_
 exact ⟨u32s_congr (by rw [hv]), trivial⟩
end Go.Proofs.YteipiejlljnclaaGreatDoor
