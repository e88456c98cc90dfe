/- Natural numbers of the program: long division. Conditions: limbs below 2^32, fewer than 2^36; a divisor of two limbs or more, the last not zero, and a dividend of no fewer limbs. -/
import Derived.Test.YteipiejlljnclaaGreatDoorRCj
set_option linter.unusedVariables false
set_option linter.unusedSimpArgs false
set_option maxRecDepth 10000
set_option maxHeartbeats 8000000
namespace Go.Proofs.YteipiejlljnclaaGreatDoor
open Go Go.AL
attribute [local irreducible] run opK opD callK
theorem wu64_pred {a : Nat} (h : 1 ≤ a ∧ a < 18446744073709551616) : IntKind.u64.wrap ((a : Int) - 1) = ((a - 1 : Nat) : Int) := by
 rw [IntKind.wrap]; simp [IntKind.bits, IntKind.signed]; omega
theorem wsub2_64 {u d b : Nat} (h : u < 4294967296 ∧ d < 4294967296 ∧ b ≤ 1) : IntKind.u64.wrap (IntKind.u64.wrap ((u : Int) - (d : Int)) - (b : Int)) = (((u + 36893488147419103232 - d - b) % 18446744073709551616 : Nat) : Int) := by
 rw [IntKind.wrap, IntKind.wrap]; simp [IntKind.bits, IntKind.signed]; omega
theorem band_mask {a : Nat} (h : a < 18446744073709551616) : ibits .and .u64 (a : Int) 4294967295 = ((a % 4294967296 : Nat) : Int) := by
 have : (4294967295 : Int) = ((4294967295 : Nat) : Int) := rfl
 rw [this, band64 (by omega), and_lo]
theorem p64_63 : (2 : Int) ^ min (Int.toNat 63) 64 = 9223372036854775808 := by decide
theorem fdiv63 (a : Nat) : Int.fdiv (a : Int) 9223372036854775808 = ((a / 9223372036854775808 : Nat) : Int) := by rw [Int.fdiv_eq_ediv_of_nonneg _ (by decide)]; simp
theorem nat_tdiv {a b : Nat} : ((a : Int)).tdiv (b : Int) = ((a / b : Nat) : Int) := by rw [Int.tdiv_eq_ediv_of_nonneg (by omega)]; simp
attribute [go_sem] p64_63 fdiv63 nat_tdiv
theorem c_long (a b : List Nat) (N : Nat) (ha : Sm a) (hb : Sm b) (hn : b.length = N + 2) (hne : gd b (N + 1) ≠ 0) (hmn : N + 2 ≤ a.length) : CT 215 [dat a, dat b]
  {val := .tup [.sl 1 (u32s (limbs (val a / val b))), .sl 1 (u32s (limbs (val a % val b)))], args := [dat a, dat b] } := by
 have hal := ha.len
 have hbl := hb.len
 have ht := hb.lim.gd (N + 1)
 obtain ⟨z1, z2, z3, z4⟩ := blen_lt32 ht hne
 have hlast : b.length - 1 = N + 1 := by omega
 refine Ctr.intro ⟨Tryz.f215, _, Tryz.call215, Tryz.func215, fold_body (by rfl) (by kernel_rfl), (by simp [Tryz.ntmps215]), (by simp), (by kernel_rfl), ?_⟩
 refine wks ?_
 refine wk1 @hlast ?_
 refine callI (c_Zeros32 _ ht hne) ?_
 have hk : 32 - blen (gd b (N + 1)) < 32 := by omega
 have hnorm : 2147483648 ≤ gd b (N + 1) * 2 ^ (32 - blen (gd b (N + 1))) ∧ (gd b (N + 1) + 1) * 2 ^ (32 - blen (gd b (N + 1))) ≤ 4294967296 := by
  refine ⟨z3, ?_⟩
  have h1 : gd b (N + 1) < 2 ^ (Nat.log2 (gd b (N + 1)) + 1) := Nat.lt_log2_self
  have e : blen (gd b (N + 1)) = Nat.log2 (gd b (N + 1)) + 1 := by rw [blen, if_neg hne]
  rw [e] at z2 ⊢
  generalize Nat.log2 (gd b (N + 1)) = q at *
  have h2 := Nat.mul_le_mul_right (2 ^ (32 - (q + 1))) (Nat.succ_le_of_lt h1)
  rw [← Nat.pow_add, show q + 1 + (32 - (q + 1)) = 32 by omega] at h2
  exact h2
 generalize 32 - blen (gd b (N + 1)) = k at *
 clear z1 z2 z3 z4
 have hk64 : k < 18446744073709551616 := by omega
 refine wk0 ?_
 refine callI (c_shift a k ha hk) ?_
 refine wk0 ?_
 refine callI (c_shift b k hb hk) ?_
 have hvb : val b * 2 ^ k < pw (b.length + 1) := by
  have h1 := val_lt hb.lim
  have h2 : 2 ^ k < 2 ^ 32 := Nat.pow_lt_pow_right (by decide) hk
  rw [pw_succ]
  exact Nat.mul_lt_mul_of_lt_of_le h1 (Nat.le_of_lt h2) (by decide)
 refine wk1 @fixL_len ?_
 refine callI (c_trim _ ⟨(fixL_lim _ _).take _, by simp only [List.length_take, fixL_len]; omega⟩) ?_
 have hlv : limbs (val ((fixL (b.length + 1) (val b * 2 ^ k)).take (b.length + 1))) = limbs (val b * 2 ^ k) := by
  rw [List.take_of_length_le (by rw [fixL_len]; exact Nat.le_refl _), fixL_val _ _ hvb]
 rw [hlv]
 obtain ⟨hvn, hvt⟩ := norm_facts (k := k) hb.lim hn hnorm.1 hnorm.2
 have hvL := lim_limbs (val b * 2 ^ k)
 have hvv := val_limbs (val b * 2 ^ k)
 have hp2 : 0 < 2 ^ k := Nat.pow_pos (by decide)
 have hVp : 0 < val b * 2 ^ k := by rw [← hvv, vsplit (limbs (val b * 2 ^ k)) (N + 1), dgd (by omega), val]; exact Nat.lt_of_lt_of_le (Nat.mul_pos (pw_pos _) (by omega)) (Nat.le_add_left _ _)
 rw [← hvv] at hVp
 have hres : val a / val b = val a * 2 ^ k / val (limbs (val b * 2 ^ k)) ∧ val a % val b = val a * 2 ^ k % val (limbs (val b * 2 ^ k)) / 2 ^ k := by
  rw [hvv]
  refine ⟨(Nat.mul_div_mul_right _ _ hp2).symm, ?_⟩
  rw [Nat.mul_mod_mul_right, Nat.mul_div_cancel _ hp2]
 rw [hres.1, hres.2]
 have huL := fixL_lim (a.length + 1) (val a * 2 ^ k)
 have hun := fixL_len (a.length + 1) (val a * 2 ^ k)
 have huv : val (fixL (a.length + 1) (val a * 2 ^ k)) = val a * 2 ^ k := by
  refine fixL_val _ _ ?_
  have h1 := val_lt ha.lim
  have h2 : 2 ^ k < 2 ^ 32 := Nat.pow_lt_pow_right (by decide) hk
  rw [pw_succ]
  exact Nat.mul_lt_mul_of_lt_of_le h1 (Nat.le_of_lt h2) (by decide)
 have hutop : val ((fixL (a.length + 1) (val a * 2 ^ k)).drop (a.length + 1 - (limbs (val b * 2 ^ k)).length)) < val (limbs (val b * 2 ^ k)) := top_small hvL hvn hvt hmn (val_lt ha.lim) hk huv
 clear hlv hvv hres hvb
 generalize limbs (val b * 2 ^ k) = v at *
 generalize fixL (a.length + 1) (val a * 2 ^ k) = u0 at *
 rw [← huv]
 have hvlen : v.length < 68719476736 := by omega
 have hvt0 := hvL.gd (N + 1)
 have hvs0 := hvL.gd N
 have e1 : v.length - 1 = N + 1 := by omega
 have e2 : v.length - 2 = N := by omega
 have e3 : ((v.length : Int) - 1).toNat = N + 1 := by omega
 have e4 : ((v.length : Int) - 2).toNat = N := by omega
 have PK0 : VC (val u0 = val a * 2 ^ k ∧ 0 < val v) := ⟨huv, hVp⟩
 have PK1 : VC (val (u0.drop (a.length + 1 - v.length)) < val v) := hutop
 clear huv hVp hutop hp2 hnorm ht hne hlast
 refine wk4 @e1 @e2 @e3 @e4 ?_
 refine vcalm (by kernel_rfl) ?_
 refine wk0 ?_
 have hLq : a.length + 1 - v.length < 68719476736 := by omega
 refine run_loop [4, 6, 7, 8, 9, 10, 11, 12] [35, 58] (α := {s : Nat × List Nat × List Nat // s.1 ≤ a.length + 1 - v.length ∧ s.2.1.length = a.length + 1 ∧ s.2.2.length = a.length + 1 - v.length ∧ Lim s.2.1 ∧ Lim s.2.2 ∧ val u0 = val v * (pw s.1 * val (s.2.2.drop s.1)) + val s.2.1 ∧ val (s.2.1.drop s.1) < val v})
  (fun s => ⟨[(4, .hs ⟨58, 1⟩ 0 (a.length + 1 - v.length)), (6, iv .u64 k), (7, .hs ⟨35, 1⟩ 0 (a.length + 1)), (8, .sl 1 (u32s v)), (9, iv .i64 v.length), (10, iv .u64 (gd v (N + 1))), (11, iv .u64 (gd v N)), (12, iv .i64 ((s.1.1 : Int) - 1))],
   [(35, ⟨1, true, false, .cells 1 (u32s s.1.2.1)⟩), (58, ⟨1, true, false, .cells 1 (u32s s.1.2.2)⟩)]⟩)
  (fun s => s.1.1) ⟨(a.length + 1 - v.length, u0, List.replicate (a.length + 1 - v.length) 0), Nat.le_refl _, hun, List.length_replicate, huL, Lim.zeros _, by simp [val], PK1⟩ rfl ?_
 rintro ⟨⟨J, u, q⟩, hJ, hul, hql, hU, hQ, hval, hlt⟩
 simp only at hJ hul hql hU hQ hval hlt
 have PK2 : VC (val u0 = val v * (pw J * val (q.drop J)) + val u ∧ val (u.drop J) < val v) := ⟨hval, hlt⟩
 dsimp only
 clear hval hlt PK1
 cases J with
 | zero =>
  refine wk0 ?_
  have hpz : pw 0 = 1 := rfl
  have PK3 : VC (val u < val v) := PK2.2
  refine run_loop [4, 5, 6, 7, 223, 224] [35, 58, 222] (α := {s : Nat × List Nat // s.1 ≤ v.length ∧ s.2.length = v.length ∧ Lim s.2 ∧ val (s.2.take s.1) = val (u.take (s.1 + 1)) / 2 ^ k % pw s.1})
   (fun s => ⟨[(4, .hs ⟨58, 1⟩ 0 (a.length + 1 - v.length)), (5, .hs ⟨222, 1⟩ 0 v.length), (6, iv .u64 k), (7, .hs ⟨35, 1⟩ 0 (a.length + 1)), (223, iv .i64 v.length), (224, iv .i64 s.1.1)],
    [(35, ⟨1, true, false, .cells 1 (u32s u)⟩), (58, ⟨1, true, false, .cells 1 (u32s q)⟩), (222, ⟨1, true, false, .cells 1 (u32s s.1.2)⟩)]⟩)
   (fun s => v.length - s.1.1) ⟨(0, List.replicate v.length 0), Nat.zero_le _, List.length_replicate, Lim.zeros _, by simp [val, pw, Nat.mod_one]⟩ rfl ?_
  rintro ⟨⟨i, r⟩, hi, hr, hR, hrv⟩
  simp only at hi hr hR hrv
  have PK4 : VC (val (r.take i) = val (u.take (i + 1)) / 2 ^ k % pw i) := hrv
  dsimp only
  clear hrv
  refine wk0 ?_
  refine condK.dec (fun h6 => ?_) (fun h6 => ?_)
  ·have d0 := hU.gd i
   have d1 := hU.gd (i + 1)
   have hor : (gd u (i + 1) * 4294967296) ||| gd u i = gd u (i + 1) * 4294967296 + gd u i := or_low (k := 32) d0
   have hbig : gd u (i + 1) * 4294967296 + gd u i < 18446744073709551616 := by omega
   have hsh : Int.fdiv ((gd u (i + 1) * 4294967296 + gd u i : Nat) : Int) (2 ^ min k 64) = (((gd u (i + 1) * 4294967296 + gd u i) / 2 ^ k : Nat) : Int) := shr64 (by omega)
   refine wk2 @hor @hsh ?_
   refine vcalm (by kernel_rfl) ?_
   refine wk2 @hor @hsh ?_
   have hpl := unshift_place (i := i) hU hk
   refine ⟨⟨(i + 1, r.set i ((gd u (i + 1) * 4294967296 + gd u i) / 2 ^ k % 4294967296)), by omega, by simp [hr], hR.set _ (Nat.mod_lt _ (by decide)), ?_⟩, rfl, by simp only; omega⟩
   simp only
   rw [val_take_set (by omega), PK4]
   exact hpl.symm
  ·have hie : i = v.length := by omega
   subst hie
   refine wk0 ?_
   refine callI (c_trim _ ⟨hQ.take _, by simp only [List.length_take]; omega⟩) ?_
   refine wk0 ?_
   refine callI (c_trim _ ⟨hR.take _, by simp only [List.length_take]; omega⟩) ?_
   refine wk0 ?_
   have hv1 := PK2.1
   rw [hpz, Nat.one_mul, List.drop_zero] at hv1
   have q1 : val u0 / val v = val q := by rw [hv1, Nat.mul_add_div PK0.2, Nat.div_eq_of_lt PK3, Nat.add_zero]
   have q2 : val u0 % val v = val u := by rw [hv1, Nat.mul_add_mod, Nat.mod_eq_of_lt PK3]
   have hz : val (u.drop (v.length + 1)) = 0 := by
    have h1 := vsplit u (v.length + 1)
    have h2 := val_lt hvL
    have h3 : pw v.length ≤ pw (v.length + 1) := pw_le (by omega)
    refine Classical.byContradiction fun hn => ?_
    have h4 : pw (v.length + 1) * 1 ≤ pw (v.length + 1) * val (u.drop (v.length + 1)) := Nat.mul_le_mul_left _ (by omega)
    simp only [VC] at PK3
    omega
   have hu1 : val (u.take (v.length + 1)) = val u := by
    have h1 := vsplit u (v.length + 1)
    rw [hz] at h1
    omega
   have r1 : val r = val u / 2 ^ k := by
    have h1 := PK4
    simp only [VC] at h1
    rw [val_take_all (by omega), hu1] at h1
    rw [h1]
    refine Nat.mod_eq_of_lt (Nat.lt_of_le_of_lt (Nat.div_le_self _ _) ?_)
    exact Nat.lt_trans PK3 (val_lt hvL)
   exact ⟨⟨u32s_congr (by rw [List.take_of_length_le (by omega), q1]), u32s_congr (by rw [List.take_of_length_le (by omega), r1, q2])⟩, trivial⟩
 | succ j =>
  have lead := lead_of hU hvL hvn (by omega) hvt PK2.2
  have f1 : ((j : Int) + (v.length : Int) - 1).toNat = j + N + 1 := by omega
  have f2 : ((j : Int) + (v.length : Int) - 2).toNat = j + N := by omega
  have f3 : j + v.length = j + N + 2 := by omega
  have g1 := hU.gd (j + N + 2)
  have g2 := hU.gd (j + N + 1)
  have g3 := hU.gd (j + N)
  obtain ⟨qh, hqh⟩ : ∃ qh, qh = val (u.drop j) / val v := ⟨_, rfl⟩
  have qlt := lead.q_lt
  have K0 := lead.guess0
  have K1 : ∀ g r, g * gd v (N + 1) + r = gd u (j + N + 2) * 4294967296 + gd u (j + N + 1) → r * 4294967296 + gd u (j + N) < g * gd v N → val (u.drop j) / val v < g := fun g r h1 h2 => lead.test h1 h2
  have K2 : ∀ g r, g * gd v (N + 1) + r = gd u (j + N + 2) * 4294967296 + gd u (j + N + 1) → g < 4294967296 → g * gd v N ≤ r * 4294967296 + gd u (j + N) → g ≤ val (u.drop j) / val v + 1 := fun g r h1 h2 h3 => lead.passed h1 h2 h3
  have K3 : ∀ g r, g * gd v (N + 1) + r = gd u (j + N + 2) * 4294967296 + gd u (j + N + 1) → 4294967296 ≤ r → g < 4294967296 ∧ g * gd v N ≤ r * 4294967296 + gd u (j + N) := fun g r h1 h2 => lead.broken h1 h2
  have K4 : ∀ g r, g * gd v (N + 1) + r = gd u (j + N + 2) * 4294967296 + gd u (j + N + 1) → g < 18446744073709551616 := fun g r h1 => lead.guess_lt h1
  rw [← hqh] at qlt K0 K1 K2
  clear lead e1 e2 e3 e4
  have hfirst : gd u (j + N + 2) * 4294967296 + gd u (j + N + 1) < 18446744073709551616 := by omega
  have hdm := Nat.div_add_mod (gd u (j + N + 2) * 4294967296 + gd u (j + N + 1)) (gd v (N + 1))
  have hdiv := Nat.div_le_self (gd u (j + N + 2) * 4294967296 + gd u (j + N + 1)) (gd v (N + 1))
  have hmod := Nat.mod_lt (gd u (j + N + 2) * 4294967296 + gd u (j + N + 1)) (show 0 < gd v (N + 1) by omega)
  have hd64 : (gd u (j + N + 2) * 4294967296 + gd u (j + N + 1)) / gd v (N + 1) < 18446744073709551616 := by omega
  rw [Nat.mul_comm] at hdm
  refine wk3 @f1 @f2 @f3 ?_
  refine vcalm (by kernel_rfl) ?_
  refine wk3 @f1 @f2 @f3 ?_
  refine vcalm (by kernel_rfl) ?_
  refine wk3 @f1 @f2 @f3 ?_
  generalize (gd u (j + N + 2) * 4294967296 + gd u (j + N + 1)) / gd v (N + 1) = gs at *
  generalize (gd u (j + N + 2) * 4294967296 + gd u (j + N + 1)) % gd v (N + 1) = rs at *
  clear hdiv hfirst
  refine run_loopE [4, 6, 7, 8, 9, 10, 11, 12, 14, 15] [35, 58] (α := {s : Nat × Nat // s.1 * gd v (N + 1) + s.2 = gd u (j + N + 2) * 4294967296 + gd u (j + N + 1) ∧ s.2 < 4294967296 ∧ qh ≤ s.1})
   (fun s => ⟨[(4, .hs ⟨58, 1⟩ 0 (a.length + 1 - v.length)), (6, iv .u64 k), (7, .hs ⟨35, 1⟩ 0 (a.length + 1)), (8, .sl 1 (u32s v)), (9, iv .i64 v.length), (10, iv .u64 (gd v (N + 1))), (11, iv .u64 (gd v N)), (12, iv .i64 j), (14, iv .u64 s.1.1), (15, iv .u64 s.1.2)],
    [(35, ⟨1, true, false, .cells 1 (u32s u)⟩), (58, ⟨1, true, false, .cells 1 (u32s q)⟩)]⟩)
   (fun s => s.1.1) ⟨(gs, rs), hdm, by simp only; omega, K0⟩
   [4, 6, 7, 8, 9, 10, 11, 12, 14] [35, 58] (β := {g : Nat // qh ≤ g ∧ g ≤ qh + 1 ∧ g < 4294967296})
   (fun g => ⟨[(4, .hs ⟨58, 1⟩ 0 (a.length + 1 - v.length)), (6, iv .u64 k), (7, .hs ⟨35, 1⟩ 0 (a.length + 1)), (8, .sl 1 (u32s v)), (9, iv .i64 v.length), (10, iv .u64 (gd v (N + 1))), (11, iv .u64 (gd v N)), (12, iv .i64 j), (14, iv .u64 g.1)],
    [(35, ⟨1, true, false, .cells 1 (u32s u)⟩), (58, ⟨1, true, false, .cells 1 (u32s q)⟩)]⟩) rfl ?_ ?_
  ·rintro ⟨⟨g, r⟩, hg, hr, hq⟩
   simp only at hg hr hq
   have hg64 := K4 _ _ hg
   have PK3 : VC (g * gd v (N + 1) + r = gd u (j + N + 2) * 4294967296 + gd u (j + N + 1)) := hg
   have hg' : 1 ≤ g → VC ((g - 1) * gd v (N + 1) + (r + gd v (N + 1)) = gd u (j + N + 2) * 4294967296 + gd u (j + N + 1)) := by
    intro h1
    obtain ⟨g0, rfl⟩ : ∃ g0, g = g0 + 1 := ⟨g - 1, by omega⟩
    rw [Nat.add_mul] at hg
    simp only [VC, Nat.add_sub_cancel]
    omega
   dsimp only
   clear hdm hd64 hmod K0 hg gs rs hbl hn hmn hvn hLq hk64 hk
   by_cases hgb : g < 4294967296
   ·have hm := mul32_lt ⟨hgb, hvs0⟩
    refine wk3 @f1 @f2 @f3 ?_
    refine condK.dec (fun h1 => ?_) (fun h1 => ?_)
    ·have hgq : qh < g := K1 g r PK3 (by omega)
     have hs := hg' (by omega)
     refine wk4 @wu64_pred @f1 @f2 @f3 ?_
     refine condK.dec (fun h2 => ?_) (fun h2 => ?_)
     ·obtain ⟨b1, b2⟩ := K3 _ _ hs (by omega)
      refine wk1 @wu64_pred ?_
      exact ⟨⟨g - 1, by omega, K2 _ _ hs b1 b2, b1⟩, rfl⟩
     ·refine wk1 @wu64_pred ?_
      exact ⟨⟨(g - 1, r + gd v (N + 1)), hs, by simp only; omega, by simp only; omega⟩, rfl, by simp only; omega⟩
    ·refine wk0 ?_
     exact ⟨⟨g, hq, K2 _ _ PK3 hgb (by omega), hgb⟩, rfl⟩
   ·have hgq : qh < g := by omega
    have hs := hg' (by omega)
    refine wk4 @wu64_pred @f1 @f2 @f3 ?_
    refine condK.dec (fun h2 => ?_) (fun h2 => ?_)
    ·obtain ⟨b1, b2⟩ := K3 _ _ hs (by omega)
     refine wk1 @wu64_pred ?_
     exact ⟨⟨g - 1, by omega, K2 _ _ hs b1 b2, b1⟩, rfl⟩
    ·refine wk1 @wu64_pred ?_
     exact ⟨⟨(g - 1, r + gd v (N + 1)), hs, by simp only; omega, by simp only; omega⟩, rfl, by simp only; omega⟩
  ·rintro ⟨g, hq1, hq2, hgb⟩
   clear K0 K1 K2 K3 K4 hdm hd64 hmod gs rs
   have hjn : j + v.length < a.length + 1 := by omega
   refine wk0 ?_
   -- u minus g times v
   refine run_loop [4, 6, 7, 8, 9, 10, 11, 12, 14, 16, 17, 117, 118, 119] [35, 58] (α := {s : Nat × List Nat × Nat × Nat // s.1 ≤ v.length ∧ s.2.1.length = a.length + 1 ∧ Lim s.2.1 ∧ s.2.2.1 < 4294967296 ∧ s.2.2.2 ≤ 1 ∧ VC ((∀ t, j + s.1 ≤ t → gd s.2.1 t = gd u t) ∧ s.2.1.take j = u.take j ∧ s.2.1.drop (j + s.1) = u.drop (j + s.1) ∧ val (s.2.1.take (j + s.1)) + pw j * (g * val (v.take s.1)) = val (u.take (j + s.1)) + pw (j + s.1) * (s.2.2.1 + s.2.2.2))})
    (fun s => ⟨[(4, .hs ⟨58, 1⟩ 0 (a.length + 1 - v.length)), (6, iv .u64 k), (7, .hs ⟨35, 1⟩ 0 (a.length + 1)), (8, .sl 1 (u32s v)), (9, iv .i64 v.length), (10, iv .u64 (gd v (N + 1))), (11, iv .u64 (gd v N)), (12, iv .i64 j), (14, iv .u64 g), (16, iv .u64 s.1.2.2.2), (17, iv .u64 s.1.2.2.1), (117, .sl 1 (u32s v)), (118, iv .i64 v.length), (119, iv .i64 s.1.1)],
     [(35, ⟨1, true, false, .cells 1 (u32s s.1.2.1)⟩), (58, ⟨1, true, false, .cells 1 (u32s q)⟩)]⟩)
    (fun s => v.length - s.1.1) ⟨(0, u, 0, 0), by simp [hul, hU, VC, val]⟩ rfl ?_
   rintro ⟨⟨i, x, c, b1⟩, hi, hxl, hxL, hc, hb1, PK4⟩
   simp only at hi hxl hxL hc hb1 PK4
   dsimp only
   have hvi := hvL.gd i
   have hxi := hxL.gd (j + i)
   have hx2 := hxL.gd (j + v.length)
   refine wk0 ?_
   refine condK.dec (fun h3 => ?_) (fun h3 => ?_)
   ·have hm := mul32_lt ⟨hgb, hvi⟩
    have hcm : c + g * gd v i < 18446744073709551616 := by omega
    have hdl := Nat.mod_lt (c + g * gd v i) (show 0 < 4294967296 by decide)
    obtain ⟨p1, p2, p3, p4⟩ := PK4
    have hstep := sub_step hxL (by omega) hb1 hcm (p1 _ (Nat.le_refl _)) p4
    have hbb : (gd x (j + i) + 36893488147419103232 - (c + g * gd v i) % 4294967296 - b1) % 18446744073709551616 / 9223372036854775808 ≤ 1 := by omega
    have PK5 : VC ((∀ t, j + (i + 1) ≤ t → gd (x.set (j + i) ((gd x (j + i) + 36893488147419103232 - (c + g * gd v i) % 4294967296 - b1) % 18446744073709551616 % 4294967296)) t = gd u t) ∧ (x.set (j + i) ((gd x (j + i) + 36893488147419103232 - (c + g * gd v i) % 4294967296 - b1) % 18446744073709551616 % 4294967296)).take j = u.take j ∧ (x.set (j + i) ((gd x (j + i) + 36893488147419103232 - (c + g * gd v i) % 4294967296 - b1) % 18446744073709551616 % 4294967296)).drop (j + (i + 1)) = u.drop (j + (i + 1)) ∧ _) :=
     ⟨fun t ht => by rw [gd_set_ne (by omega)]; exact p1 t (by omega), by rw [take_set_ge (by omega)]; exact p2, by rw [← Nat.add_assoc, drop_set_eq]; exact drop_more p3 1, hstep⟩
    clear hstep p1 p2 p3 p4
    refine wk2 @band_mask @wsub2_64 ?_
    exact ⟨⟨(i + 1, x.set (j + i) ((gd x (j + i) + 36893488147419103232 - (c + g * gd v i) % 4294967296 - b1) % 18446744073709551616 % 4294967296), (c + g * gd v i) / 4294967296, (gd x (j + i) + 36893488147419103232 - (c + g * gd v i) % 4294967296 - b1) % 18446744073709551616 / 9223372036854775808), by omega, by simp [hxl], hxL.set _ (Nat.mod_lt _ (by decide)), by simp only; omega, hbb, PK5⟩, rfl, by simp only; omega⟩
   ·have hie : i = v.length := by omega
    subst hie
    obtain ⟨p1, p2, p3, p4⟩ := PK4
    rw [List.take_length] at p4
    obtain ⟨s1, s2⟩ := sub_last (J := j + v.length) hxL (by omega) hb1 hc (p1 _ (Nat.le_refl _)) p4
    have PK5 : VC _ := s1
    have hy := Nat.mod_lt (gd x (j + v.length) + 36893488147419103232 - c - b1) (show 0 < 18446744073709551616 by decide)
    have PK6 : VC ((x.set (j + v.length) ((gd x (j + v.length) + 36893488147419103232 - c - b1) % 18446744073709551616 % 4294967296)).take j = u.take j ∧ (x.set (j + v.length) ((gd x (j + v.length) + 36893488147419103232 - c - b1) % 18446744073709551616 % 4294967296)).drop (j + v.length + 1) = u.drop (j + v.length + 1)) :=
     ⟨by rw [take_set_ge (by omega)]; exact p2, by rw [drop_set_eq]; exact drop_more p3 1⟩
    have hx3 := hxL.set (j + v.length) (d := (gd x (j + v.length) + 36893488147419103232 - c - b1) % 18446744073709551616 % 4294967296) (Nat.mod_lt _ (by decide))
    clear p1 p2 p3 p4 s1
    refine wk1 @wsub2_64 ?_
    generalize (gd x (j + v.length) + 36893488147419103232 - c - b1) % 18446744073709551616 = y at *
    refine condK.dec (fun h4 => ?_) (fun h4 => ?_)
    ·have hy1 : y / 9223372036854775808 = 1 := by omega
     have hx3l : (x.set (j + v.length) (y % 4294967296)).length = a.length + 1 := by simp [hxl]
     have PK7 : VC (val ((x.set (j + v.length) (y % 4294967296)).take (j + v.length + 1)) + pw j * (g * val v) = val (u.take (j + v.length + 1)) + pw (j + v.length + 1)) := by
      have := PK5
      rw [hy1, Nat.mul_one] at this
      exact this
     clear PK5 hy h4
     have hg1 : 1 ≤ g := by
      refine Classical.byContradiction fun hn => ?_
      have h0 : g = 0 := by omega
      have h7 := PK7
      rw [h0, Nat.zero_mul, Nat.mul_zero, Nat.add_zero] at h7
      have h8 := val_take_lt hx3 (j + v.length + 1)
      simp only [VC] at h7
      omega
     generalize x.set (j + v.length) (y % 4294967296) = x3 at *
     refine wk1 @wu64_pred ?_
     refine run_loop [4, 6, 7, 8, 9, 10, 11, 12, 14, 17, 177, 178, 179] [35, 58] (α := {s : Nat × List Nat × Nat // s.1 ≤ v.length ∧ s.2.1.length = a.length + 1 ∧ Lim s.2.1 ∧ s.2.2 ≤ 1 ∧ VC (s.2.1.take j = u.take j ∧ s.2.1.drop (j + s.1) = x3.drop (j + s.1) ∧ val (s.2.1.take (j + s.1)) + pw (j + s.1) * s.2.2 = val (x3.take (j + s.1)) + pw j * val (v.take s.1))})
      (fun s => ⟨[(4, .hs ⟨58, 1⟩ 0 (a.length + 1 - v.length)), (6, iv .u64 k), (7, .hs ⟨35, 1⟩ 0 (a.length + 1)), (8, .sl 1 (u32s v)), (9, iv .i64 v.length), (10, iv .u64 (gd v (N + 1))), (11, iv .u64 (gd v N)), (12, iv .i64 j), (14, iv .u64 (g - 1 : Nat)), (17, iv .u64 s.1.2.2), (177, .sl 1 (u32s v)), (178, iv .i64 v.length), (179, iv .i64 s.1.1)],
       [(35, ⟨1, true, false, .cells 1 (u32s s.1.2.1)⟩), (58, ⟨1, true, false, .cells 1 (u32s q)⟩)]⟩)
      (fun s => v.length - s.1.1) ⟨(0, x3, 0), by simp [hx3l, hx3, VC, val, PK6.1]⟩ rfl ?_
     rintro ⟨⟨i, z, e⟩, hi2, hzl, hzL, he, PK8⟩
     simp only at hi2 hzl hzL he PK8
     dsimp only
     clear hi hxl hxL hc hb1 hvi hxi hx2 h3 s2 c b1 x
     have hvi := hvL.gd i
     have hzi := hzL.gd (j + i)
     have hz2 := hzL.gd (j + v.length)
     refine wk0 ?_
     refine condK.dec (fun h5 => ?_) (fun h5 => ?_)
     ·obtain ⟨p1, p2, p3⟩ := PK8
      have hst := back_step (by omega) (gd_of_drop p2 (Nat.le_refl _)) p3
      have hcar : (e + (gd z (j + i) + gd v i)) / 4294967296 ≤ 1 := by omega
      have PK9 : VC ((z.set (j + i) ((e + (gd z (j + i) + gd v i)) % 4294967296)).take j = u.take j ∧ (z.set (j + i) ((e + (gd z (j + i) + gd v i)) % 4294967296)).drop (j + (i + 1)) = x3.drop (j + (i + 1)) ∧ _) :=
       ⟨by rw [take_set_ge (by omega)]; exact p1, by rw [← Nat.add_assoc, drop_set_eq]; exact drop_more p2 1, hst⟩
      clear hst p1 p2 p3
      refine wk0 ?_
      exact ⟨⟨(i + 1, z.set (j + i) ((e + (gd z (j + i) + gd v i)) % 4294967296), (e + (gd z (j + i) + gd v i)) / 4294967296), by omega, by simp [hzl], hzL.set _ (Nat.mod_lt _ (by decide)), hcar, PK9⟩, rfl, by simp only; omega⟩
     ·have hie : i = v.length := by omega
      subst hie
      have he2 : e % 4294967296 = e := Nat.mod_eq_of_lt (by omega)
      have hgm : (g - 1) % 4294967296 = g - 1 := Nat.mod_eq_of_lt (by omega)
      refine wk2 @he2 @hgm ?_
      obtain ⟨p1, p2, p3⟩ := PK8
      rw [List.take_length] at p3
      have hbl := back_last (J := j + v.length) (by omega) (gd_of_drop p2 (Nat.le_refl _)) p3
      have hfin : val ((z.set (j + v.length) ((gd z (j + v.length) + e) % 4294967296)).take (j + v.length + 1)) + pw j * ((g - 1) * val v) = val (u.take (j + v.length + 1)) := by
       refine mended (val_take_lt hx3 _) PK7 hbl (val_take_lt (hzL.set _ (Nat.mod_lt _ (by decide))) _) ?_ hg1 (pw_pos j) ?_
       ·have hW : val (u.take (j + v.length + 1)) / pw j = val (u.drop j) := by
         have hz0 := above_zero hvL rfl PK2.2
         have h1 := vsplit u (j + v.length + 1)
         have h2 := vsplit u j
         rw [hz0, Nat.mul_zero, Nat.add_zero] at h1
         rw [← h1, h2, Nat.add_mul_div_left _ _ (pw_pos j), Nat.div_eq_of_lt (val_take_lt hU j), Nat.zero_add]
        rw [hW]
        have h3 : g * val v ≤ (qh + 1) * val v := Nat.mul_le_mul_right _ hq2
        have h4 := Nat.div_mul_le_self (val (u.drop j)) (val v)
        rw [← hqh] at h4
        rw [Nat.add_mul, Nat.one_mul] at h3
        omega
       ·rw [Nat.add_assoc, pw_add]
        exact Nat.mul_lt_mul_of_pos_left (Nat.lt_of_lt_of_le (val_lt hvL) (pw_le (by omega))) (pw_pos j)
      obtain ⟨r1, r2, r3⟩ := round_end (u2 := z.set (j + v.length) ((gd z (j + v.length) + e) % 4294967296)) (g := g - 1) hvL rfl PK0.2 PK2.2 (by simp [hzl, hul]) (by rw [take_set_ge (by omega)]; exact p1) (by
       rw [drop_set_eq, drop_more p2 1]; exact PK6.2) (by
       refine Classical.byContradiction fun hn => ?_
       have hgq : g = qh := by omega
       have h3 : g * val v ≤ val (u.drop j) := by
        rw [hgq, hqh]; exact Nat.div_mul_le_self _ _
       have h4 : pw j * (g * val v) ≤ pw j * val (u.drop j) := Nat.mul_le_mul_left _ h3
       have hz0 := above_zero hvL rfl PK2.2
       have h1 := vsplit u (j + v.length + 1)
       have h2 := vsplit u j
       rw [hz0, Nat.mul_zero, Nat.add_zero] at h1
       have h5 := PK7
       simp only [VC] at h5
       have h6 := val_take_lt hx3 (j + v.length + 1)
       omega) hfin
      exact ⟨⟨(j, z.set (j + v.length) ((gd z (j + v.length) + e) % 4294967296), q.set j (g - 1)), by simp only; omega, by simp [hzl], by simp [hql], hzL.set _ (Nat.mod_lt _ (by decide)), hQ.set _ (by omega), round_val (by omega) PK2.1 r3, r2⟩, rfl, by simp⟩
    ·have hy0 : y / 9223372036854775808 = 0 := by omega
     have PK7 : VC (val ((x.set (j + v.length) (y % 4294967296)).take (j + v.length + 1)) + pw j * (g * val v) = val (u.take (j + v.length + 1))) := by
      have := PK5
      rw [hy0, Nat.mul_zero, Nat.add_zero] at this
      exact this
     have hgm : g % 4294967296 = g := Nat.mod_eq_of_lt hgb
     clear PK5 hy h4
     refine wk1 @hgm ?_
     obtain ⟨r1, r2, r3⟩ := round_end (u2 := x.set (j + v.length) (y % 4294967296)) hvL rfl PK0.2 PK2.2 (by simp [hxl, hul]) PK6.1 PK6.2 (by rw [← hqh]; exact hq1) PK7
     exact ⟨⟨(j, x.set (j + v.length) (y % 4294967296), q.set j g), by simp only; omega, by simp [hxl], by simp [hql], hx3, hQ.set _ hgb, round_val (by omega) PK2.1 r3, r2⟩, rfl, by simp⟩
end Go.Proofs.YteipiejlljnclaaGreatDoor
