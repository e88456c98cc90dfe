/- The oracle's natural numbers (exactpplref01): division by one limb, shifts, from machine numbers. Conditions stand in each. -/
import Derived.Test.YteipiejlljnclaaGreatDoorRCn
import Derived.Test.YteipiejlljnclaaGreatDoorRCg
import Derived.Test.YteipiejlljnclaaGreatDoorRCj
import Derived.Test.YteipiejlljnclaaGreatDoorRCp
import Derived.Test.YteipiejlljnclaaGreatDoorRCl
set_option linter.unusedVariables false
set_option linter.unusedSimpArgs false
set_option maxRecDepth 10000
set_option maxHeartbeats 8000000
section
namespace Go.Proofs.YteipiejlljnclaaGreatDoor
open Go Go.AL
attribute [local irreducible] run opK opD callK
theorem q_tdiv {a b : Nat} : ((a : Int)).tdiv (b : Int) = ((a / b : Nat) : Int) := by rw [Int.tdiv_eq_ediv_of_nonneg (by omega)]; simp
theorem c_short1 (a : List Nat) (d : Nat) (ha : Sm a) (hd : 0 < d ∧ d < 4294967296) : CT 277 [dat a, .data (iv .u32 d)]
  {val := .tup [.sl 1 (u32s (limbs (val a / d))), iv .u32 (val a % d : Nat)], args := [dat a, .data (iv .u32 d)] } := by
 obtain ⟨hA, hl⟩ := ha
 refine Ctr.intro ⟨Tryz.f277, _, Tryz.call277, Tryz.func277, fold_body (by rfl) (by kernel_rfl), (by simp [Tryz.ntmps277]), (by simp), (by kernel_rfl), ?_⟩
 refine wks ?_
 refine wk0 ?_
 refine run_loop [0, 1, 6, 7, 8] [12] (α := {s : Nat × List Nat × Nat // s.1 ≤ a.length ∧ s.2.1.length = a.length ∧ Lim s.2.1 ∧ s.2.2 < d ∧ val (a.drop s.1) = d * val (s.2.1.drop s.1) + s.2.2})
  (fun s => ⟨[(0, .sl 1 (u32s a)), (1, iv .u32 d), (6, .hs ⟨12, 1⟩ 0 a.length), (7, iv .u64 s.1.2.2), (8, iv .i64 ((s.1.1 : Int) - 1))], [(12, ⟨1, true, false, .cells 1 (u32s s.1.2.1)⟩)]⟩)
  (fun s => s.1.1) ⟨(a.length, List.replicate a.length 0, 0), by simp [Lim.zeros, val]; omega⟩ rfl ?_
 rintro ⟨⟨i, o, r⟩, hi, ho, hL, hr, hv⟩
 simp only at hi ho hL hr hv
 cases i with
 | zero =>
  simp only [List.drop_zero] at hv
  have hr2 : r % 4294967296 = r := Nat.mod_eq_of_lt (by omega)
  refine wk1 @hr2 ?_
  refine callI (c_Trim1 _ ⟨hL.take _, by simp only [List.length_take]; omega⟩) ?_
  refine wk1 @hr2 ?_
  have e1 : val a / d = val o := by rw [hv, Nat.mul_add_div hd.1, Nat.div_eq_of_lt hr, Nat.add_zero]
  have e2 : val a % d = r := by rw [hv, Nat.mul_add_mod, Nat.mod_eq_of_lt hr]
  have e3 : o.take a.length = o := List.take_of_length_le (by omega)
  exact ⟨⟨u32s_congr (by rw [e3, e1]), vi (by rw [e2])⟩, trivial⟩
 | succ i =>
  have h1 := hA.gd i
  have hx : r * 4294967296 + gd a i < 18446744073709551616 := by omega
  have hdv := div_lt32 ⟨hr, h1⟩
  have hdm := Nat.mod_eq_of_lt hdv
  have hml := Nat.mod_lt (r * 4294967296 + gd a i) hd.1
  refine wk2 @hdm @q_tdiv ?_
  refine ⟨⟨(i, _, _), by omega, by simp [ho], hL.set _ hdv, Nat.mod_lt _ hd.1, ?_⟩, rfl, by simp⟩
  simp only
  rw [drop_gd (l := a) (by omega), drop_gd (l := o.set i _) (by simp; omega), gd_set_eq (by omega), List.drop_set_of_lt (by omega), val, val, hv]
  have e := Nat.div_add_mod (r * 4294967296 + gd a i) d
  have e2 : d * ((r * 4294967296 + gd a i) / d + 4294967296 * val (o.drop (i + 1))) = d * ((r * 4294967296 + gd a i) / d) + 4294967296 * (d * val (o.drop (i + 1))) := by
   rw [Nat.mul_add, Nat.mul_left_comm]
  omega
theorem shift_place1 {a o : List Nat} {i k c : Nat} (hi : i < o.length) (hA : Lim a) (hk : k < 32) (hc : c < 2 ^ k) (hv : val (o.take i) + pw i * c = val (a.take i) * 2 ^ k) :
  val ((o.set i ((gd a i * 2 ^ k + c) % 4294967296)).take (i + 1)) + pw (i + 1) * ((gd a i * 2 ^ k + c) / 4294967296) = val (a.take (i + 1)) * 2 ^ k ∧ (gd a i * 2 ^ k + c) / 4294967296 < 2 ^ k ∧ gd a i * 2 ^ k + c < 18446744073709551616 := by
 have hd := hA.gd i
 have h2 : gd a i * 2 ^ k + c < 4294967296 * 2 ^ k := by
  have : (gd a i + 1) * 2 ^ k ≤ 4294967296 * 2 ^ k := Nat.mul_le_mul_right _ hd
  rw [Nat.add_mul, Nat.one_mul] at this
  omega
 have h3 : 2 ^ k < 2 ^ 32 := Nat.pow_lt_pow_right (by decide) hk
 refine ⟨?_, by rw [Nat.div_lt_iff_lt_mul (by decide), Nat.mul_comm (2 ^ k)]; exact h2, by omega⟩
 rw [val_take_set hi, val_take_succ, Nat.add_mul, ← hv, pw_succ, Nat.mul_assoc (pw i) 4294967296, Nat.add_assoc, ← Nat.mul_add, Nat.mod_add_div, Nat.mul_add, Nat.mul_assoc]
 omega
theorem fixL_of {o : List Nat} {v : Nat} (h : Lim o) (hv : val o = v) : o = fixL o.length v := by rw [← hv, fixL_eq h]
theorem c_shift1 (a : List Nat) (k : Nat) (ha : Sm a) (hk : k < 32) : CT 278 [dat a, .data (iv .i64 k)]
  {val := .hs ⟨0, 0⟩ 0 (a.length + 1), new := [.slc (.cells 1 (u32s (fixL (a.length + 1) (val a * 2 ^ k))))], args := [dat a, .data (iv .i64 k)] } := by
 obtain ⟨hA, hl⟩ := ha
 refine Ctr.intro ⟨Tryz.f278, _, Tryz.call278, Tryz.func278, fold_body (by rfl) (by kernel_rfl), (by simp [Tryz.ntmps278]), (by simp), (by kernel_rfl), ?_⟩
 refine wks ?_
 refine wk0 ?_
 refine run_loop [0, 1, 5, 6, 7] [12] (α := {s : Nat × List Nat × Nat // s.1 ≤ a.length ∧ s.2.1.length = a.length + 1 ∧ Lim s.2.1 ∧ s.2.2 < 2 ^ k ∧ val (s.2.1.take s.1) + pw s.1 * s.2.2 = val (a.take s.1) * 2 ^ k})
  (fun s => ⟨[(0, .sl 1 (u32s a)), (1, iv .i64 k), (5, .hs ⟨12, 1⟩ 0 (a.length + 1)), (6, iv .u64 s.1.2.2), (7, iv .i64 s.1.1)], [(12, ⟨1, true, false, .cells 1 (u32s s.1.2.1)⟩)]⟩)
  (fun s => a.length - s.1.1) ⟨(0, List.replicate (a.length + 1) 0, 0), by simp [Lim.zeros, val]; exact Nat.pow_pos (by decide)⟩ rfl ?_
 rintro ⟨⟨i, o, c⟩, hi, ho, hL, hc, hv⟩
 simp only at hi ho hL hc hv
 have hd := hA.gd i
 have h31 : 2 ^ k ≤ 2147483648 := Nat.pow_le_pow_right (n := 2) (by decide) (show k ≤ 31 by omega)
 refine wk0 ?_
 refine condK.dec (fun h3 => ?_) (fun h3 => ?_)
 ·have hsp := shift_place1 (o := o) (by omega) hA hk hc hv
  have hor : (gd a i * 2 ^ k) ||| c = gd a i * 2 ^ k + c := or_low hc
  have hsh : IntKind.u64.wrap ((gd a i : Int) * 2 ^ min k 64) = ((gd a i * 2 ^ k : Nat) : Int) := shl64 ⟨by omega, by omega⟩
  refine wk2 @hsh @hor ?_
  exact ⟨⟨(i + 1, _, _), by omega, by simp [ho], hL.set _ (Nat.mod_lt _ (by decide)), hsp.2.1, hsp.1⟩, rfl, by simp only; omega⟩
 ·have hie : i = a.length := by omega
  subst hie
  have hc2 : c % 4294967296 = c := Nat.mod_eq_of_lt (by omega)
  refine wk1 @hc2 ?_
  refine ⟨⟨by omega, u32s_congr ?_⟩, by simp [VC]⟩
  rw [List.take_length] at hv
  have e : val (o.set a.length c) = val a * 2 ^ k := by
   rw [← val_take_all (l := o.set a.length c) (n := a.length + 1) (by simp; omega), val_take_set (by omega), hv]
  rw [List.take_of_length_le (by simp; omega), fixL_of (hL.set _ (by omega)) e]
  simp only [List.length_set, ho]
theorem c_unshift1 (a : List Nat) (k : Nat) (ha : Nm a) (hk : k < 32) : CT 280 [dat a, .data (iv .i64 k)]
  {val := .sl 1 (u32s (limbs (val a / 2 ^ k))), args := [dat a, .data (iv .i64 k)] } := by
 obtain ⟨hA, hl⟩ := ha
 refine Ctr.intro ⟨Tryz.f280, _, Tryz.call280, Tryz.func280, fold_body (by rfl) (by kernel_rfl), (by simp [Tryz.ntmps280]), (by simp), (by kernel_rfl), ?_⟩
 refine wks ?_
 refine wk0 ?_
 refine run_loop [0, 1, 5, 6] [10] (α := {s : Nat × List Nat // s.1 ≤ a.length ∧ s.2.length = a.length ∧ Lim s.2 ∧ val (s.2.take s.1) = val (a.take (s.1 + 1)) / 2 ^ k % pw s.1})
  (fun s => ⟨[(0, .sl 1 (u32s a)), (1, iv .i64 k), (5, .hs ⟨10, 1⟩ 0 a.length), (6, iv .i64 s.1.1)], [(10, ⟨1, true, false, .cells 1 (u32s s.1.2)⟩)]⟩)
  (fun s => a.length - s.1.1) ⟨(0, List.replicate a.length 0), Nat.zero_le _, List.length_replicate, Lim.zeros _, by simp [val, pw, Nat.mod_one]⟩ rfl ?_
 rintro ⟨⟨i, r⟩, hi, hr, hR, hrv⟩
 simp only at hi hr hR hrv
 refine wk0 ?_
 refine condK.dec (fun h3 => ?_) (fun h3 => ?_)
 ·have d0 := hA.gd i
  have d1 := hA.gd (i + 1)
  have hpl := unshift_place (i := i) hA hk
  have hor : gd a i ||| gd a (i + 1) * 4294967296 = gd a (i + 1) * 4294967296 + gd a i := by rw [Nat.or_comm]; exact or_low (k := 32) d0
  have hbig : gd a (i + 1) * 4294967296 + gd a i < 18446744073709551616 := by omega
  have hsh : ∀ x : Nat, Int.fdiv (x : Int) (2 ^ min k 64) = ((x / 2 ^ k : Nat) : Int) := fun x => shr64 (by omega)
  have hend : ∀ d, d = (gd a (i + 1) * 4294967296 + gd a i) / 2 ^ k % 4294967296 → val ((r.set i d).take (i + 1)) = val (a.take (i + 2)) / 2 ^ k % pw (i + 1) := fun d hd => by
   rw [val_take_set (by omega), hrv, hd]; exact hpl.symm
  refine wk0 ?_
  refine condK.dec (fun h5 => ?_) (fun h5 => ?_)
  ·refine wk2 @hor @hsh ?_
   exact ⟨⟨(i + 1, r.set i ((gd a (i + 1) * 4294967296 + gd a i) / 2 ^ k % 4294967296)), by omega, by simp [hr], hR.set _ (Nat.mod_lt _ (by decide)), hend _ rfl⟩, rfl, by simp only; omega⟩
  ·have h0 : gd a (i + 1) = 0 := gd_of_le (by omega)
   refine wk1 @hsh ?_
   exact ⟨⟨(i + 1, r.set i (gd a i / 2 ^ k % 4294967296)), by omega, by simp [hr], hR.set _ (Nat.mod_lt _ (by decide)), hend _ (by rw [h0]; simp)⟩, rfl, by simp only; omega⟩
 ·have hie : i = a.length := by omega
  subst hie
  refine wk0 ?_
  refine callI (c_Trim1 _ ⟨hR.take _, by simp only [List.length_take]; omega⟩) ?_
  refine wk0 ?_
  refine ⟨u32s_congr ?_, trivial⟩
  rw [val_take_all (by omega), val_take_all (by omega)] at hrv
  rw [val_take_all (by omega), hrv, Nat.mod_eq_of_lt (Nat.lt_of_le_of_lt (Nat.div_le_self _ _) (val_lt hA))]
end Go.Proofs.YteipiejlljnclaaGreatDoor
end
section
namespace Go.Proofs.YteipiejlljnclaaGreatDoor
open Go Go.AL
attribute [local irreducible] run opK opD callK
def leaves (u v : List Nat) (J : Nat) : List Nat := fixL u.length (val u - pw J * (val (u.drop J) / val v * val v))
theorem leaves_of {u x v : List Nat} {J g : Nat} (hx : Lim x) (hl : x.length = u.length) (h : val u = val x + pw J * (g * val v)) (hg : g = val (u.drop J) / val v) : x = leaves u v J := by
 unfold leaves
 rw [← hg, ← hl]
 exact fixL_of hx (by omega)
theorem sub_word {x d b : Nat} (hx : x < 4294967296) (hd : d < 4294967296) (hb : b ≤ 1) (h : x < d + b) :
  (x + 4294967296 - (d + b)) % 4294967296 = (x + 36893488147419103232 - d - b) % 18446744073709551616 % 4294967296 ∧ (x + 36893488147419103232 - d - b) % 18446744073709551616 / 9223372036854775808 = 1 := by omega
theorem sub_word' {x d b : Nat} (hx : x < 4294967296) (hd : d < 4294967296) (hb : b ≤ 1) (h : ¬ x < d + b) :
  (x - (d + b)) % 4294967296 = (x + 36893488147419103232 - d - b) % 18446744073709551616 % 4294967296 ∧ (x + 36893488147419103232 - d - b) % 18446744073709551616 / 9223372036854775808 = 0 := by omega
theorem c_digit (u v : List Nat) (J N : Nat) (hu : Nm u) (hv : Sm v) (hn : v.length = N + 2) (hl : J + v.length < u.length) (ht : 2147483648 ≤ gd v (N + 1)) (hJ : val (u.drop (J + 1)) < val v) :
  CT 279 [.slc (.cells 1 (u32s u)), dat v, .data (iv .i64 J)]
  {val := iv .u32 (val (u.drop J) / val v : Nat), args := [.slc (.cells 1 (u32s (leaves u v J))), dat v, .data (iv .i64 J)] } := by
 have hul := hu.len
 have hvl := hv.len
 have hU := hu.lim
 have hvL := hv.lim
 have lead := lead_of (n := N) hU hvL hn (by omega) ht hJ
 have hvt0 := hvL.gd (N + 1)
 have hvs0 := hvL.gd N
 have f1 : ((J : Int) + (v.length : Int) - 1).toNat = J + N + 1 := by omega
 have f2 : ((J : Int) + (v.length : Int) - 2).toNat = J + N := by omega
 have f3 : J + v.length = J + N + 2 := by omega
 have e1 : v.length - 1 = N + 1 := by omega
 have e3 : ((v.length : Int) - 1).toNat = N + 1 := by omega
 have e4 : ((v.length : Int) - 2).toNat = N := by omega
 have g1 := hU.gd (J + N + 2)
 have g2 := hU.gd (J + N + 1)
 have g3 := hU.gd (J + N)
 have hVp : 0 < val v := by omega
 refine Ctr.intro ⟨Tryz.f279, _, Tryz.call279, Tryz.func279, fold_body (by rfl) (by kernel_rfl), (by simp [Tryz.ntmps279]), (by simp), (by kernel_rfl), ?_⟩
 refine wks ?_
 refine wk3 @f1 @f2 @f3 ?_
 refine vcalm (by kernel_rfl) ?_
 refine wk3 @f1 @f2 @f3 ?_
 obtain ⟨qh, hqh⟩ : ∃ qh, qh = val (u.drop J) / val v := ⟨_, rfl⟩
 have qlt := lead.q_lt
 have K0 := lead.guess0
 have K1 : ∀ g r, g * gd v (N + 1) + r = gd u (J + N + 2) * 4294967296 + gd u (J + N + 1) → r * 4294967296 + gd u (J + N) < g * gd v N → val (u.drop J) / val v < g := fun g r h1 h2 => lead.test h1 h2
 have K2 : ∀ g r, g * gd v (N + 1) + r = gd u (J + N + 2) * 4294967296 + gd u (J + N + 1) → g < 4294967296 → g * gd v N ≤ r * 4294967296 + gd u (J + N) → g ≤ val (u.drop J) / val v + 1 := fun g r h1 h2 h3 => lead.passed h1 h2 h3
 have K3 : ∀ g r, g * gd v (N + 1) + r = gd u (J + N + 2) * 4294967296 + gd u (J + N + 1) → 4294967296 ≤ r → g < 4294967296 ∧ g * gd v N ≤ r * 4294967296 + gd u (J + N) := fun g r h1 h2 => lead.broken h1 h2
 have K4 : ∀ g r, g * gd v (N + 1) + r = gd u (J + N + 2) * 4294967296 + gd u (J + N + 1) → g < 18446744073709551616 := fun g r h1 => lead.guess_lt h1
 rw [← hqh] at qlt K0 K1 K2 ⊢
 clear lead
 have hfirst : gd u (J + N + 2) * 4294967296 + gd u (J + N + 1) < 18446744073709551616 := by omega
 have hdm := Nat.div_add_mod (gd u (J + N + 2) * 4294967296 + gd u (J + N + 1)) (gd v (N + 1))
 have hdiv := Nat.div_le_self (gd u (J + N + 2) * 4294967296 + gd u (J + N + 1)) (gd v (N + 1))
 have hmod := Nat.mod_lt (gd u (J + N + 2) * 4294967296 + gd u (J + N + 1)) (show 0 < gd v (N + 1) by omega)
 have hd64 : (gd u (J + N + 2) * 4294967296 + gd u (J + N + 1)) / gd v (N + 1) < 18446744073709551616 := by omega
 rw [Nat.mul_comm] at hdm
 refine wk6 @f1 @f2 @f3 @e1 @e3 @e4 ?_
 refine vcalm (by kernel_rfl) ?_
 refine wk6 @f1 @f2 @f3 @e1 @e3 @e4 ?_
 generalize (gd u (J + N + 2) * 4294967296 + gd u (J + N + 1)) / gd v (N + 1) = gs at *
 generalize (gd u (J + N + 2) * 4294967296 + gd u (J + N + 1)) % gd v (N + 1) = rs at *
 clear hdiv hfirst
 refine run_loopE [0, 1, 2, 7, 9, 10] [0] (α := {s : Nat × Nat // s.1 * gd v (N + 1) + s.2 = gd u (J + N + 2) * 4294967296 + gd u (J + N + 1) ∧ s.2 < 4294967296 ∧ qh ≤ s.1})
  (fun s => ⟨[(0, .hs ⟨0, 0⟩ 0 u.length), (1, .sl 1 (u32s v)), (2, iv .i64 J), (7, iv .i64 v.length), (9, iv .u64 s.1.1), (10, iv .u64 s.1.2)], [(0, ⟨0, true, false, .cells 1 (u32s u)⟩)]⟩)
  (fun s => s.1.1) ⟨(gs, rs), hdm, by simp only; omega, K0⟩
  [0, 1, 2, 7, 9] [0] (β := {g : Nat // qh ≤ g ∧ g ≤ qh + 1 ∧ g < 4294967296})
  (fun g => ⟨[(0, .hs ⟨0, 0⟩ 0 u.length), (1, .sl 1 (u32s v)), (2, iv .i64 J), (7, iv .i64 v.length), (9, iv .u64 g.1)], [(0, ⟨0, true, false, .cells 1 (u32s u)⟩)]⟩) rfl ?_ ?_
 ·rintro ⟨⟨g, r⟩, hg, hr, hq⟩
  simp only at hg hr hq
  have hg64 := K4 _ _ hg
  have PK3 : VC (g * gd v (N + 1) + r = gd u (J + N + 2) * 4294967296 + gd u (J + N + 1)) := hg
  have hg' : 1 ≤ g → VC ((g - 1) * gd v (N + 1) + (r + gd v (N + 1)) = gd u (J + N + 2) * 4294967296 + gd u (J + N + 1)) := by
   intro h1
   obtain ⟨g0, rfl⟩ : ∃ g0, g = g0 + 1 := ⟨g - 1, by omega⟩
   rw [Nat.add_mul] at hg
   simp only [VC, Nat.add_sub_cancel]
   omega
  dsimp only
  clear hdm hd64 hmod K0 hg gs rs
  by_cases hgb : g < 4294967296
  ·have hm := mul32_lt ⟨hgb, hvs0⟩
   refine wk5 @f1 @f2 @f3 @e3 @e4 ?_
   refine vcalm (by kernel_rfl) ?_
   refine wk5 @f1 @f2 @f3 @e3 @e4 ?_
   refine condK.dec (fun h1 => ?_) (fun h1 => ?_)
   ·have hgq : qh < g := K1 g r PK3 (by omega)
    have hs := hg' (by omega)
    refine wk2 @wu64_pred @e3 ?_
    refine condK.dec (fun h2 => ?_) (fun h2 => ?_)
    ·obtain ⟨b1, b2⟩ := K3 _ _ hs (by omega)
     refine wk1 @wu64_pred ?_
     exact ⟨⟨g - 1, by omega, K2 _ _ hs b1 b2, b1⟩, rfl⟩
    ·refine wk1 @wu64_pred ?_
     exact ⟨⟨(g - 1, r + gd v (N + 1)), hs, by simp only; omega, by simp only; omega⟩, rfl, by simp only; omega⟩
   ·refine wk0 ?_
    exact ⟨⟨g, hq, K2 _ _ PK3 hgb (by omega), hgb⟩, rfl⟩
  ·have hgq : qh < g := by omega
   have hs := hg' (by omega)
   refine wk6 @wu64_pred @f1 @f2 @f3 @e3 @e4 ?_
   refine vcalm (by kernel_rfl) ?_
   refine wk6 @wu64_pred @f1 @f2 @f3 @e3 @e4 ?_
   refine condK.dec (fun h2 => ?_) (fun h2 => ?_)
   ·obtain ⟨b1, b2⟩ := K3 _ _ hs (by omega)
    refine wk1 @wu64_pred ?_
    exact ⟨⟨g - 1, by omega, K2 _ _ hs b1 b2, b1⟩, rfl⟩
   ·refine wk1 @wu64_pred ?_
    exact ⟨⟨(g - 1, r + gd v (N + 1)), hs, by simp only; omega, by simp only; omega⟩, rfl, by simp only; omega⟩
 ·rintro ⟨g, hq1, hq2, hgb⟩
  clear K0 K1 K2 K3 K4 hdm hd64 hmod gs rs f1 f2 e1 e3 e4 g1 g2 g3 hvt0 hvs0
  have h0 : gd v v.length = 0 := gd_of_le (Nat.le_refl _)
  refine wk0 ?_
  -- u minus g times v
  refine run_loop [0, 1, 2, 7, 9, 11, 12, 13] [0] (α := {s : Nat × List Nat × Nat × Nat // s.1 ≤ v.length + 1 ∧ s.2.1.length = u.length ∧ Lim s.2.1 ∧ s.2.2.1 < 4294967296 ∧ s.2.2.2 ≤ 1 ∧ (s.1 = v.length + 1 → s.2.2.1 = 0) ∧ VC ((∀ t, J + s.1 ≤ t → gd s.2.1 t = gd u t) ∧ s.2.1.take J = u.take J ∧ s.2.1.drop (J + s.1) = u.drop (J + s.1) ∧ val (s.2.1.take (J + s.1)) + pw J * (g * val (v.take s.1)) = val (u.take (J + s.1)) + pw (J + s.1) * (s.2.2.1 + s.2.2.2))})
   (fun s => ⟨[(0, .hs ⟨0, 0⟩ 0 u.length), (1, .sl 1 (u32s v)), (2, iv .i64 J), (7, iv .i64 v.length), (9, iv .u64 g), (11, iv .u64 s.1.2.2.2), (12, iv .u64 s.1.2.2.1), (13, iv .i64 s.1.1)], [(0, ⟨0, true, false, .cells 1 (u32s s.1.2.1)⟩)]⟩)
   (fun s => v.length + 1 - s.1.1) ⟨(0, u, 0, 0), by simp [hU, VC, val]⟩ rfl ?_
  rintro ⟨⟨i, x, c, b⟩, hi, hxl, hxL, hc, hb1, hend, PK4⟩
  simp only at hi hxl hxL hc hb1 hend PK4
  dsimp only
  have hvi := hvL.gd i
  have hxi := hxL.gd (J + i)
  refine wk0 ?_
  refine condK.dec (fun h3 => ?_) (fun h3 => ?_)
  ·have hm := mul32_lt ⟨hgb, hvi⟩
   have hcm : c + g * gd v i < 18446744073709551616 := by omega
   have hdl := Nat.mod_lt (c + g * gd v i) (show 0 < 4294967296 by decide)
   obtain ⟨p1, p2, p3, p4⟩ := PK4
   have hstep := sub_step hxL (by omega) hb1 hcm (p1 _ (Nat.le_refl _)) p4
   have hbb : (gd x (J + i) + 36893488147419103232 - (c + g * gd v i) % 4294967296 - b) % 18446744073709551616 / 9223372036854775808 ≤ 1 := by omega
   have hce : i + 1 = v.length + 1 → (c + g * gd v i) / 4294967296 = 0 := fun h => by
    have : i = v.length := by omega
    rw [this, h0, Nat.mul_zero, Nat.add_zero]
    exact Nat.div_eq_of_lt hc
   have PK5 : VC ((∀ t, J + (i + 1) ≤ t → gd (x.set (J + i) ((gd x (J + i) + 36893488147419103232 - (c + g * gd v i) % 4294967296 - b) % 18446744073709551616 % 4294967296)) t = gd u t) ∧ (x.set (J + i) ((gd x (J + i) + 36893488147419103232 - (c + g * gd v i) % 4294967296 - b) % 18446744073709551616 % 4294967296)).take J = u.take J ∧ (x.set (J + i) ((gd x (J + i) + 36893488147419103232 - (c + g * gd v i) % 4294967296 - b) % 18446744073709551616 % 4294967296)).drop (J + (i + 1)) = u.drop (J + (i + 1)) ∧ _) :=
    ⟨fun t ht => by rw [gd_set_ne (by omega)]; exact p1 t (by omega), by rw [take_set_ge (by omega)]; exact p2, by rw [← Nat.add_assoc, drop_set_eq]; exact drop_more p3 1, hstep⟩
   clear hstep p1 p2 p3 p4 hend
   have hx2 : ∀ d, d < 4294967296 → Lim (x.set (J + i) d) := fun d hd => hxL.set _ hd
   have hcc : (c + g * gd v i) / 4294967296 < 4294967296 := by omega
   obtain ⟨y, hy⟩ : ∃ y, y = (gd x (J + i) + 36893488147419103232 - (c + g * gd v i) % 4294967296 - b) % 18446744073709551616 := ⟨_, rfl⟩
   have sw := @sub_word (gd x (J + i)) ((c + g * gd v i) % 4294967296) b hxi hdl hb1
   have sw' := @sub_word' (gd x (J + i)) ((c + g * gd v i) % 4294967296) b hxi hdl hb1
   rw [← hy] at hbb PK5 sw sw'
   clear hy
   refine wk0 ?_
   refine condK.dec (fun h5 => ?_) (fun h5 => ?_)
   ·refine wk1 @band_mask ?_
    refine condK.dec (fun h4 => ?_) (fun h4 => ?_)
    ·obtain ⟨w1, w2⟩ := sw (by omega)
     refine wk2 (wu64_up hxi) @w1 ?_
     rw [w2] at PK5
     exact ⟨⟨(i + 1, x.set (J + i) (y % 4294967296), (c + g * gd v i) / 4294967296, 1), by omega, by simp [hxl], hx2 _ (Nat.mod_lt _ (by decide)), hcc, Nat.le_refl _, hce, PK5⟩, rfl, by simp only; omega⟩
    ·obtain ⟨w1, w2⟩ := sw' (by omega)
     refine wk1 @w1 ?_
     rw [w2] at PK5
     exact ⟨⟨(i + 1, x.set (J + i) (y % 4294967296), (c + g * gd v i) / 4294967296, 0), by omega, by simp [hxl], hx2 _ (Nat.mod_lt _ (by decide)), hcc, by simp, hce, PK5⟩, rfl, by simp only; omega⟩
   ·have hi0 : gd v i = 0 := gd_of_le (by omega)
    rw [hi0, Nat.mul_zero, Nat.add_zero] at PK5 hdl sw sw' hcc hce
    refine wk1 @band_mask ?_
    refine condK.dec (fun h4 => ?_) (fun h4 => ?_)
    ·obtain ⟨w1, w2⟩ := sw (by omega)
     refine wk2 (wu64_up hxi) @w1 ?_
     rw [w2] at PK5
     exact ⟨⟨(i + 1, x.set (J + i) (y % 4294967296), c / 4294967296, 1), by omega, by simp [hxl], hx2 _ (Nat.mod_lt _ (by decide)), hcc, Nat.le_refl _, hce, PK5⟩, rfl, by simp only; omega⟩
    ·obtain ⟨w1, w2⟩ := sw' (by omega)
     refine wk1 @w1 ?_
     rw [w2] at PK5
     exact ⟨⟨(i + 1, x.set (J + i) (y % 4294967296), c / 4294967296, 0), by omega, by simp [hxl], hx2 _ (Nat.mod_lt _ (by decide)), hcc, by simp, hce, PK5⟩, rfl, by simp only; omega⟩
  ·have hie : i = v.length + 1 := by omega
   subst hie
   have hc0 := hend rfl
   subst hc0
   obtain ⟨p1, p2, p3, p4⟩ := PK4
   rw [val_take_all (l := v) (by omega), Nat.zero_add, ← Nat.add_assoc] at p4
   rw [← Nat.add_assoc] at p3
   have PK5 : VC (x.take J = u.take J ∧ x.drop (J + v.length + 1) = u.drop (J + v.length + 1) ∧ _) := ⟨p2, p3, p4⟩
   clear p1 p2 p3 p4 hend hxi hvi
   refine wk0 ?_
   refine condK.dec (fun h4 => ?_) (fun h4 => ?_)
   ·have hb0 : b = 0 := by omega
    subst hb0
    obtain ⟨p2, p3, p4⟩ := PK5
    rw [Nat.mul_zero, Nat.add_zero] at p4
    obtain ⟨r1, r2, r3⟩ := round_end (u2 := x) (g := g) hvL rfl hVp hJ hxl p2 p3 (by rw [← hqh]; exact hq1) p4
    have hlv := leaves_of hxL hxl r3 r1
    have hgq : g = qh := by rw [hqh]; exact r1
    have hgm : g % 4294967296 = g := Nat.mod_eq_of_lt hgb
    refine wk1 @hgm ?_
    refine ⟨vi (by rw [hgq]), ?_, by simp [VC]⟩
    rw [← hlv]
    simp [memOut, lget]
   ·have hb0 : b = 1 := by omega
    subst hb0
    have hg1 : 1 ≤ g := by
     refine Classical.byContradiction fun hn => ?_
     have hg0 : g = 0 := by omega
     subst hg0
     obtain ⟨p2, p3, p4⟩ := PK5
     rw [Nat.zero_mul, Nat.mul_zero] at p4
     have h6 := val_take_lt hxL (J + v.length + 1)
     omega
    refine wk0 ?_
    refine run_loop [0, 1, 2, 7, 9, 12, 17] [0] (α := {s : Nat × List Nat × Nat // s.1 ≤ v.length + 1 ∧ s.2.1.length = u.length ∧ Lim s.2.1 ∧ s.2.2 ≤ 1 ∧ VC ((∀ t, J + s.1 ≤ t → gd s.2.1 t = gd x t) ∧ s.2.1.take J = u.take J ∧ s.2.1.drop (J + s.1) = x.drop (J + s.1) ∧ val (s.2.1.take (J + s.1)) + pw (J + s.1) * s.2.2 = val (x.take (J + s.1)) + pw J * val (v.take s.1))})
     (fun s => ⟨[(0, .hs ⟨0, 0⟩ 0 u.length), (1, .sl 1 (u32s v)), (2, iv .i64 J), (7, iv .i64 v.length), (9, iv .u64 g), (12, iv .u64 s.1.2.2), (17, iv .i64 s.1.1)], [(0, ⟨0, true, false, .cells 1 (u32s s.1.2.1)⟩)]⟩)
     (fun s => v.length + 1 - s.1.1) ⟨(0, x, 0), by simp [hxL, hxl, VC, val]; exact PK5.1⟩ rfl ?_
    rintro ⟨⟨i, z, e⟩, hi2, hzl, hzL, he, PK8⟩
    simp only at hi2 hzl hzL he PK8
    dsimp only
    have hvi := hvL.gd i
    have hzi := hzL.gd (J + i)
    refine wk0 ?_
    refine condK.dec (fun h5 => ?_) (fun h5 => ?_)
    ·obtain ⟨p1, p2, p3, p4⟩ := PK8
     have hst := back_step (v := v) (by omega) (p1 _ (Nat.le_refl _)) p4
     rw [← Nat.add_assoc e] at hst
     rw [Nat.add_comm e (gd z (J + i))] at hst
     have hcar : (gd z (J + i) + e + gd v i) / 4294967296 ≤ 1 := by omega
     have PK9 : VC ((∀ t, J + (i + 1) ≤ t → gd (z.set (J + i) ((gd z (J + i) + e + gd v i) % 4294967296)) t = gd x t) ∧ (z.set (J + i) ((gd z (J + i) + e + gd v i) % 4294967296)).take J = u.take J ∧ (z.set (J + i) ((gd z (J + i) + e + gd v i) % 4294967296)).drop (J + (i + 1)) = x.drop (J + (i + 1)) ∧ _) :=
      ⟨fun t ht => by rw [gd_set_ne (by omega)]; exact p1 t (by omega), by rw [take_set_ge (by omega)]; exact p2, by rw [← Nat.add_assoc, drop_set_eq]; exact drop_more p3 1, hst⟩
     have hz2 := hzL.set (J + i) (d := (gd z (J + i) + e + gd v i) % 4294967296) (Nat.mod_lt _ (by decide))
     clear hst p1 p2 p3 p4
     refine wk0 ?_
     refine condK.dec (fun h6 => ?_) (fun h6 => ?_)
     ·refine wk0 ?_
      exact ⟨⟨(i + 1, z.set (J + i) ((gd z (J + i) + e + gd v i) % 4294967296), (gd z (J + i) + e + gd v i) / 4294967296), by omega, by simp [hzl], hz2, hcar, PK9⟩, rfl, by simp only; omega⟩
     ·have hi0 : gd v i = 0 := gd_of_le (by omega)
      rw [hi0, Nat.add_zero] at PK9 hcar hz2
      refine wk0 ?_
      exact ⟨⟨(i + 1, z.set (J + i) ((gd z (J + i) + e) % 4294967296), (gd z (J + i) + e) / 4294967296), by omega, by simp [hzl], hz2, hcar, PK9⟩, rfl, by simp only; omega⟩
    ·have hie : i = v.length + 1 := by omega
     subst hie
     obtain ⟨p1, p2, p3, p4⟩ := PK8
     obtain ⟨s2, s3, s4⟩ := PK5
     rw [val_take_all (l := v) (by omega), ← Nat.add_assoc] at p4
     rw [← Nat.add_assoc] at p3
     have hfin : val (z.take (J + v.length + 1)) + pw J * ((g - 1) * val v) = val (u.take (J + v.length + 1)) := by
      refine mended (val_take_lt hxL _) (by rw [s4, Nat.mul_one]) p4 (val_take_lt hzL _) ?_ hg1 (pw_pos J) ?_
      ·have hW : val (u.take (J + v.length + 1)) / pw J = val (u.drop J) := by
        have hz0 := above_zero hvL rfl hJ
        have h1 := vsplit u (J + v.length + 1)
        have h2 := vsplit u J
        rw [hz0, Nat.mul_zero, Nat.add_zero] at h1
        rw [← h1, h2, Nat.add_mul_div_left _ _ (pw_pos J), Nat.div_eq_of_lt (val_take_lt hU J), Nat.zero_add]
       rw [hW]
       have h3 : g * val v ≤ (qh + 1) * val v := Nat.mul_le_mul_right _ hq2
       have h4 := Nat.div_mul_le_self (val (u.drop J)) (val v)
       rw [← hqh] at h4
       rw [Nat.add_mul, Nat.one_mul] at h3
       omega
      ·rw [Nat.add_assoc, pw_add]
       exact Nat.mul_lt_mul_of_pos_left (Nat.lt_of_lt_of_le (val_lt hvL) (pw_le (by omega))) (pw_pos J)
     obtain ⟨r1, r2, r3⟩ := round_end (u2 := z) (g := g - 1) hvL rfl hVp hJ hzl p2 (by rw [p3]; exact s3) (by
      refine Classical.byContradiction fun hn => ?_
      have hgq : g = qh := by omega
      have h3 : g * val v ≤ val (u.drop J) := by
       rw [hgq, hqh]; exact Nat.div_mul_le_self _ _
      have h4 : pw J * (g * val v) ≤ pw J * val (u.drop J) := Nat.mul_le_mul_left _ h3
      have hz0 := above_zero hvL rfl hJ
      have h1 := vsplit u (J + v.length + 1)
      have h2 := vsplit u J
      rw [hz0, Nat.mul_zero, Nat.add_zero] at h1
      have h6 := val_take_lt hxL (J + v.length + 1)
      omega) hfin
     have hlv := leaves_of hzL hzl r3 r1
     have hgq : g - 1 = qh := by rw [hqh]; exact r1
     have hgm : (g - 1) % 4294967296 = g - 1 := Nat.mod_eq_of_lt (by omega)
     clear hfin r1 r2 r3 p1 p2 p3 p4 s2 s3 s4 hqh hq1 hq2
     refine wk2 @hgm @wu64_pred ?_
     refine ⟨vi (by rw [hgq]), ?_, by simp [VC]⟩
     rw [← hlv]
     simp [memOut, lget]
end Go.Proofs.YteipiejlljnclaaGreatDoor
end
