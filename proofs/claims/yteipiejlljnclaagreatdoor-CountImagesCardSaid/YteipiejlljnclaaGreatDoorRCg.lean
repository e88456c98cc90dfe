/- Natural numbers of the program: sums and differences. Their conditions stand in each. -/
import Derived.Test.YteipiejlljnclaaGreatDoorRCe
set_option linter.unusedVariables false
set_option linter.unusedSimpArgs false
set_option maxRecDepth 10000
set_option maxHeartbeats 4000000
section
namespace Go.Proofs.YteipiejlljnclaaGreatDoor
open Go Go.AL
attribute [local irreducible] run opK opD callK

theorem add_place {o x y : List Nat} {i c : Nat} (hi : i < o.length) (hv : val (o.take i) + pw i * c = val (x.take i) + val (y.take i)) :
  val ((o.set i ((gd x i + gd y i + c) % 4294967296)).take (i + 1)) + pw (i + 1) * ((gd x i + gd y i + c) / 4294967296) = val (x.take (i + 1)) + val (y.take (i + 1)) := by
 rw [val_take_set hi, val_take_succ, val_take_succ, pw_succ]
 have e : pw i * ((gd x i + gd y i + c) % 4294967296) + pw i * 4294967296 * ((gd x i + gd y i + c) / 4294967296) = pw i * gd x i + pw i * gd y i + pw i * c := by
  rw [Nat.mul_assoc, ← Nat.mul_add, Nat.mod_add_div, Nat.mul_add, Nat.mul_add]
 omega
theorem c_Add (a b : List Nat) (ha : Sm a) (hb : Sm b) : CT 266 [dat a, dat b] { val := .sl 1 (u32s (limbs (val a + val b))), args := [dat a, dat b] } := by
 obtain ⟨ha, hal⟩ := ha
 obtain ⟨hb, hbl⟩ := hb
 refine Ctr.intro ⟨Tryz.f266, _, Tryz.call266, Tryz.func266, fold_body (by rfl) (by kernel_rfl), (by simp [Tryz.ntmps266]), (by simp), (by kernel_rfl), ?_⟩
 refine wks ?_
 refine wk0 ?_
 refine condK.dec (fun h => ?_) (fun h => ?_)
 ·refine wk0 ?_
  have hx := hb
  have hy := ha
  refine run_loop [0, 1, 5, 6, 21, 22, 23] [20] (α := {s : Nat × List Nat × Nat // s.1 ≤ b.length ∧ s.2.1.length = b.length + 1 ∧ Lim s.2.1 ∧ s.2.2 ≤ 1 ∧ val (s.2.1.take s.1) + pw s.1 * s.2.2 = val (b.take s.1) + val (a.take s.1)})
   (fun s => ⟨[(0, .sl 1 (u32s b)), (1, .sl 1 (u32s a)), (5, .hs ⟨20, 1⟩ 0 (b.length + 1)), (6, iv .u32 s.1.2.2), (21, .sl 1 (u32s b)), (22, iv .i64 b.length), (23, iv .i64 s.1.1)], [(20, ⟨1, true, false, .cells 1 (u32s s.1.2.1)⟩)]⟩)
   (fun s => b.length - s.1.1) ⟨(0, List.replicate (b.length + 1) 0, 0), by simp [Lim.zeros, val, pw]⟩ rfl ?_
  rintro ⟨⟨i, o, c⟩, hi, ho, hL, hc, hv⟩
  simp only at hi ho hL hc hv
  have h1 := hx.gd i
  have h2 := hy.gd i
  refine wk0 ?_
  refine condK.dec (fun h3 => ?_) (fun h3 => ?_)
  ·have hp := add_place (o := o) (by omega) hv
   have hL2 := hL.set i (d := (gd b i + gd a i + c) % 4294967296) (Nat.mod_lt _ (by decide))
   refine wk0 ?_
   refine condK.dec (fun h4 => ?_) (fun h4 => ?_)
   ·refine wk0 ?_
    refine callI (c_Add32 _ _ _ ⟨h1, h2, by omega⟩) ?_
    refine wk0 ?_
    exact ⟨⟨(i + 1, _, _), by omega, by simp [ho], hL2, by simp only; omega, hp⟩, rfl, by simp only; omega⟩
   ·have h0 : gd a i = 0 := gd_of_le (by omega)
    rw [h0] at hp hL2
    refine wk0 ?_
    refine callI (c_Add32 _ 0 _ ⟨h1, by decide, by omega⟩) ?_
    refine wk0 ?_
    exact ⟨⟨(i + 1, _, _), by omega, by simp [ho], hL2, by simp only; omega, hp⟩, rfl, by simp only; omega⟩
  ·have hie : i = b.length := by omega
   subst hie
   refine wk0 ?_
   have hlast : val ((o.set b.length c).take (b.length + 1)) = val b + val a := by
    rw [val_take_set (by omega)]
    rw [val_take_all (Nat.le_refl _), val_take_all (l := a) (by omega)] at hv
    exact hv
   refine callI (c_trim _ ⟨(hL.set _ (by omega)).take _, by simp only [List.length_take, List.length_set]; omega⟩) ?_
   refine wk0 ?_
   exact ⟨u32s_congr (by first | (rw [hlast]; done) | rw [hlast, Nat.add_comm]), trivial⟩
 ·refine wk0 ?_
  have hx := ha
  have hy := hb
  refine run_loop [0, 1, 5, 6, 21, 22, 23] [20] (α := {s : Nat × List Nat × Nat // s.1 ≤ a.length ∧ s.2.1.length = a.length + 1 ∧ Lim s.2.1 ∧ s.2.2 ≤ 1 ∧ val (s.2.1.take s.1) + pw s.1 * s.2.2 = val (a.take s.1) + val (b.take s.1)})
   (fun s => ⟨[(0, .sl 1 (u32s a)), (1, .sl 1 (u32s b)), (5, .hs ⟨20, 1⟩ 0 (a.length + 1)), (6, iv .u32 s.1.2.2), (21, .sl 1 (u32s a)), (22, iv .i64 a.length), (23, iv .i64 s.1.1)], [(20, ⟨1, true, false, .cells 1 (u32s s.1.2.1)⟩)]⟩)
   (fun s => a.length - s.1.1) ⟨(0, List.replicate (a.length + 1) 0, 0), by simp [Lim.zeros, val, pw]⟩ rfl ?_
  rintro ⟨⟨i, o, c⟩, hi, ho, hL, hc, hv⟩
  simp only at hi ho hL hc hv
  have h1 := hx.gd i
  have h2 := hy.gd i
  refine wk0 ?_
  refine condK.dec (fun h3 => ?_) (fun h3 => ?_)
  ·have hp := add_place (o := o) (by omega) hv
   have hL2 := hL.set i (d := (gd a i + gd b i + c) % 4294967296) (Nat.mod_lt _ (by decide))
   refine wk0 ?_
   refine condK.dec (fun h4 => ?_) (fun h4 => ?_)
   ·refine wk0 ?_
    refine callI (c_Add32 _ _ _ ⟨h1, h2, by omega⟩) ?_
    refine wk0 ?_
    exact ⟨⟨(i + 1, _, _), by omega, by simp [ho], hL2, by simp only; omega, hp⟩, rfl, by simp only; omega⟩
   ·have h0 : gd b i = 0 := gd_of_le (by omega)
    rw [h0] at hp hL2
    refine wk0 ?_
    refine callI (c_Add32 _ 0 _ ⟨h1, by decide, by omega⟩) ?_
    refine wk0 ?_
    exact ⟨⟨(i + 1, _, _), by omega, by simp [ho], hL2, by simp only; omega, hp⟩, rfl, by simp only; omega⟩
  ·have hie : i = a.length := by omega
   subst hie
   refine wk0 ?_
   have hlast : val ((o.set a.length c).take (a.length + 1)) = val a + val b := by
    rw [val_take_set (by omega)]
    rw [val_take_all (Nat.le_refl _), val_take_all (l := b) (by omega)] at hv
    exact hv
   refine callI (c_trim _ ⟨(hL.set _ (by omega)).take _, by simp only [List.length_take, List.length_set]; omega⟩) ?_
   refine wk0 ?_
   exact ⟨u32s_congr (by first | (rw [hlast]; done) | rw [hlast, Nat.add_comm]), trivial⟩
theorem sub_place {o x y : List Nat} {i c : Nat} (hx : Lim x) (hy : Lim y) (hi : i < o.length) (hc : c ≤ 1) (hv : val (o.take i) + val (y.take i) = val (x.take i) + pw i * c) :
  val ((o.set i ((gd x i + 8589934592 - gd y i - c) % 4294967296)).take (i + 1)) + val (y.take (i + 1)) = val (x.take (i + 1)) + pw (i + 1) * (if gd x i < gd y i + c then 1 else 0) := by
 rw [val_take_set hi, val_take_succ, val_take_succ, pw_succ]
 have h1 := hx.gd i
 have h2 := hy.gd i
 generalize gd x i = a at *
 generalize gd y i = b at *
 have e : (a + 8589934592 - b - c) % 4294967296 + b + c = a + 4294967296 * (if a < b + c then 1 else 0) := by split <;> omega
 have e2 := congrArg (pw i * ·) e
 simp only [Nat.mul_add] at e2
 rw [Nat.mul_assoc]
 omega
theorem c_Sub (a b : List Nat) (ha : Sm a) (hb : Sm b) : CT 267 [dat a, dat b]
  {val := if val a < val b then .tup [.sl 1 (u32s []), iv .i64 1] else .tup [.sl 1 (u32s (limbs (val a - val b))), iv .i64 0], args := [dat a, dat b] } := by
 refine Ctr.intro ⟨Tryz.f267, _, Tryz.call267, Tryz.func267, fold_body (by rfl) (by kernel_rfl), (by simp [Tryz.ntmps267]), (by simp), (by kernel_rfl), ?_⟩
 refine wks ?_
 refine wk0 ?_
 refine callI (c_Cmp a b ha.nm hb.nm) ?_
 by_cases hlt : val a < val b
 ·rw [if_pos hlt, cmpN_lt hlt]
  refine wk0 ?_
  exact ⟨by simp [u32s], trivial⟩
 ·have hcmp : ¬ cmpN (val a) (val b) < 0 := by unfold cmpN; rw [if_neg hlt]; split <;> decide
  rw [if_neg hlt]
  refine wk0 ?_
  refine callI (c_trim a ha.nm) ?_
  refine wk0 ?_
  refine callI (c_trim b hb.nm) ?_
  have lx := ha.limbs.len
  have ly := hb.limbs.len
  have hlen := limbs_len_mono (m := val b) (n := val a) (by omega)
  have hA := lim_limbs (val a)
  have hB := lim_limbs (val b)
  have va := val_limbs (val a)
  have vb := val_limbs (val b)
  rw [← va, ← vb] at hlt
  have hres : limbs (val a - val b) = limbs (val (limbs (val a)) - val (limbs (val b))) := by rw [va, vb]
  rw [hres]
  clear hres va vb hcmp
  generalize limbs (val a) = x at *
  generalize limbs (val b) = y at *
  refine wk0 ?_
  refine run_loop [1, 6, 7, 22, 23, 24] [21] (α := {s : Nat × List Nat × Nat // s.1 ≤ x.length ∧ s.2.1.length = x.length ∧ Lim s.2.1 ∧ s.2.2 ≤ 1 ∧ val (s.2.1.take s.1) + val (y.take s.1) = val (x.take s.1) + pw s.1 * s.2.2})
   (fun s => ⟨[(1, .sl 1 (u32s y)), (6, .hs ⟨21, 1⟩ 0 x.length), (7, iv .u32 s.1.2.2), (22, .sl 1 (u32s x)), (23, iv .i64 x.length), (24, iv .i64 s.1.1)], [(21, ⟨1, true, false, .cells 1 (u32s s.1.2.1)⟩)]⟩)
   (fun s => x.length - s.1.1) ⟨(0, List.replicate x.length 0, 0), by simp [Lim.zeros, val, pw]⟩ rfl ?_
  rintro ⟨⟨i, o, c⟩, hi, ho, hL, hc, hv⟩
  simp only at hi ho hL hc hv
  have h1 := hA.gd i
  have h2 := hB.gd i
  refine wk0 ?_
  refine condK.dec (fun h3 => ?_) (fun h3 => ?_)
  ·have hp := sub_place (o := o) hA hB (by omega) hc hv
   have hL2 := hL.set i (d := (gd x i + 8589934592 - gd y i - c) % 4294967296) (Nat.mod_lt _ (by decide))
   have hb1 : (if gd x i < gd y i + c then 1 else 0) ≤ 1 := by split <;> omega
   refine wk0 ?_
   refine condK.dec (fun h4 => ?_) (fun h4 => ?_)
   ·refine wk0 ?_
    refine callI (c_Sub32 _ _ _ ⟨h1, h2, by omega⟩) ?_
    refine wk0 ?_
    exact ⟨⟨(i + 1, _, _), by omega, by simp [ho], hL2, hb1, hp⟩, rfl, by simp only; omega⟩
   ·have h0 : gd y i = 0 := gd_of_le (by omega)
    rw [h0] at hp hL2 hb1
    simp only [Nat.zero_add] at hp hb1
    refine wk0 ?_
    refine callI (c_Sub32 _ 0 _ ⟨h1, by decide, by omega⟩) ?_
    refine wk0 ?_
    exact ⟨⟨(i + 1, _, _), by omega, by simp [ho], hL2, hb1, hp⟩, rfl, by simp only; omega⟩
  ·have hie : i = x.length := by omega
   subst hie
   rw [val_take_all (l := o) (by omega), val_take_all (Nat.le_refl _), val_take_all (l := y) (by omega)] at hv
   have ho2 := val_lt hL
   rw [ho] at ho2
   have hc0 : c = 0 := by
    rcases (by omega : c = 0 ∨ c = 1) with h | h
    ·exact h
    ·subst h
     omega
   subst hc0
   have hvo : val o = val x - val y := by omega
   have htk : o.take x.length = o := List.take_of_length_le (by omega)
   refine wk0 ?_
   refine callI (c_trim _ ⟨hL.take _, by simp only [List.length_take]; omega⟩) ?_
   refine wk0 ?_
   exact ⟨u32s_congr (by rw [htk, hvo]), trivial⟩
end Go.Proofs.YteipiejlljnclaaGreatDoor
end
section
namespace Go.Proofs.YteipiejlljnclaaGreatDoor
open Go Go.AL
attribute [local irreducible] run opK opD callK

theorem mul_digit {x y o c : Nat} (hx : x < 4294967296) (hy : y < 4294967296) (ho : o < 4294967296) (hc : c < 4294967296) :
  let h := x * y / 4294967296; let l := x * y % 4294967296
  let l2 := (l + o + 0) % 4294967296; let c1 := (l + o + 0) / 4294967296
  let h2 := (h + c1) % 4294967296
  let l3 := (l2 + c + 0) % 4294967296; let c2 := (l2 + c + 0) / 4294967296
  l3 = (x * y + o + c) % 4294967296 ∧ (h2 + c2) % 4294967296 = (x * y + o + c) / 4294967296 := by
 have := mul32_lt ⟨hx, hy⟩
 generalize x * y = p at *
 simp only
 omega
theorem mul_place {o0 o y : List Nat} {i k c x : Nat} (hk : i + k < o.length) (hsame : gd o (i + k) = gd o0 (i + k)) (hv : val (o.take (i + k)) + pw (i + k) * c = val (o0.take (i + k)) + pw i * (x * val (y.take k))) :
  val ((o.set (i + k) ((x * gd y k + gd o (i + k) + c) % 4294967296)).take (i + (k + 1))) + pw (i + (k + 1)) * ((x * gd y k + gd o (i + k) + c) / 4294967296) = val (o0.take (i + (k + 1))) + pw i * (x * val (y.take (k + 1))) := by
 rw [← Nat.add_assoc, val_take_set hk, val_take_succ, val_take_succ y, pw_succ, hsame]
 generalize gd o0 (i + k) = d
 generalize gd y k = e
 have h1 : pw (i + k) * ((x * e + d + c) % 4294967296) + pw (i + k) * 4294967296 * ((x * e + d + c) / 4294967296) = pw (i + k) * (x * e) + pw (i + k) * d + pw (i + k) * c := by
  rw [Nat.mul_assoc, ← Nat.mul_add, Nat.mod_add_div, Nat.mul_add, Nat.mul_add]
 have h2 : pw i * (x * (val (y.take k) + pw k * e)) = pw i * (x * val (y.take k)) + pw (i + k) * (x * e) := by
  rw [Nat.mul_add, Nat.mul_add, pw_add]
  congr 1
  rw [Nat.mul_assoc, Nat.mul_left_comm x]
 omega
theorem c_Mul (a b : List Nat) (ha : Sm a) (hb : Sm b) : CT 171 [dat a, dat b] { val := .sl 1 (u32s (limbs (val a * val b))), args := [dat a, dat b] } := by
 refine Ctr.intro ⟨Tryz.f171, _, Tryz.call171, Tryz.func171, fold_body (by rfl) (by kernel_rfl), (by simp [Tryz.ntmps171]), (by simp), (by kernel_rfl), ?_⟩
 refine wks ?_
 refine wk0 ?_
 refine callI (c_trim a ha.nm) ?_
 refine wk0 ?_
 refine callI (c_trim b hb.nm) ?_
 have lx := ha.limbs.len
 have ly := hb.limbs.len
 have hA := lim_limbs (val a)
 have hB := lim_limbs (val b)
 have hres : limbs (val a * val b) = limbs (val (limbs (val a)) * val (limbs (val b))) := by rw [val_limbs, val_limbs]
 rw [hres]
 clear hres
 generalize limbs (val a) = x at *
 generalize limbs (val b) = y at *
 refine wk0 ?_
 refine run_loop [1, 5, 24, 25, 26] [23] (α := {s : Nat × List Nat // s.1 ≤ x.length ∧ s.2.length = x.length + y.length ∧ Lim s.2 ∧ val (s.2.take (s.1 + y.length)) = val (x.take s.1) * val y})
  (fun s => ⟨[(1, .sl 1 (u32s y)), (5, .hs ⟨23, 1⟩ 0 (x.length + y.length)), (24, .sl 1 (u32s x)), (25, iv .i64 x.length), (26, iv .i64 s.1.1)], [(23, ⟨1, true, false, .cells 1 (u32s s.1.2)⟩)]⟩)
  (fun s => x.length - s.1.1) ⟨(0, List.replicate (x.length + y.length) 0), by simp [Lim.zeros, val, val_zeros, List.take_replicate]⟩ rfl ?_
 rintro ⟨⟨i, o⟩, hi, ho, hL, hv⟩
 simp only at hi ho hL hv
 have h1 := hA.gd i
 refine wk0 ?_
 refine condK.dec (fun h3 => ?_) (fun h3 => ?_)
 ·refine wk0 ?_
  refine run_loop [1, 5, 6, 7, 8, 24, 25, 26, 31, 32, 33] [23] (α := {s : Nat × List Nat × Nat // s.1 ≤ y.length ∧ s.2.1.length = x.length + y.length ∧ Lim s.2.1 ∧ s.2.2 < 4294967296 ∧ (∀ j, i + s.1 ≤ j → gd s.2.1 j = gd o j) ∧ val (s.2.1.take (i + s.1)) + pw (i + s.1) * s.2.2 = val (o.take (i + s.1)) + pw i * (gd x i * val (y.take s.1))})
   (fun s => ⟨[(1, .sl 1 (u32s y)), (5, .hs ⟨23, 1⟩ 0 (x.length + y.length)), (6, iv .i64 i), (7, iv .u32 (gd x i)), (8, iv .u32 s.1.2.2), (24, .sl 1 (u32s x)), (25, iv .i64 x.length), (26, iv .i64 i), (31, .sl 1 (u32s y)), (32, iv .i64 y.length), (33, iv .i64 s.1.1)], [(23, ⟨1, true, false, .cells 1 (u32s s.1.2.1)⟩)]⟩)
   (fun s => y.length - s.1.1) ⟨(0, o, 0), by simp [ho, hL, val]⟩ rfl ?_
  rintro ⟨⟨k, q, c⟩, hk, hq, hM, hc, hs, hw⟩
  simp only at hk hq hM hc hs hw
  have h2 := hB.gd k
  have h5 := hM.gd (i + k)
  refine wk0 ?_
  refine condK.dec (fun h4 => ?_) (fun h4 => ?_)
  ·have hdig := mul_digit h1 h2 h5 hc
   have hpl := mul_place (o0 := o) (o := q) (y := y) (i := i) (k := k) (c := c) (x := gd x i) (by omega) (hs _ (by omega)) hw
   have hm := mul32_lt ⟨h1, h2⟩
   simp only at hdig
   refine wk0 ?_
   refine callI (c_Mul32 _ _ ⟨h1, h2⟩) ?_
   refine wk0 ?_
   refine callI (c_Add32 _ _ 0 ⟨Nat.mod_lt _ (by decide), h5, by decide⟩) ?_
   refine wk0 ?_
   refine callI (c_Add32 _ _ 0 ⟨Nat.mod_lt _ (by decide), hc, by decide⟩) ?_
   refine wk0 ?_
   rw [hdig.1, hdig.2]
   exact ⟨⟨(k + 1, _, _), by omega, by simp [hq], hM.set _ (Nat.mod_lt _ (by decide)), by simp only; omega, fun j hj => by
    simp only
    rw [gd_set_ne (by omega)]
    exact hs j (by omega), hpl⟩, rfl, by simp only; omega⟩
  ·have hke : k = y.length := by omega
   subst hke
   refine wk0 ?_
   refine ⟨⟨(i + 1, q.set (i + y.length) c), by omega, by simp [hq], hM.set _ hc, ?_⟩, rfl, by simp only; omega⟩
   simp only
   rw [show i + 1 + y.length = i + y.length + 1 by omega, val_take_set (by omega), hw, hv, val_take_all (Nat.le_refl _), val_take_succ, Nat.add_mul, Nat.mul_assoc]
 ·have hie : i = x.length := by omega
  subst hie
  refine wk0 ?_
  refine callI (c_trim _ ⟨hL.take _, by simp only [List.length_take]; omega⟩) ?_
  refine wk0 ?_
  exact ⟨u32s_congr (by rw [hv, List.take_length]), trivial⟩
end Go.Proofs.YteipiejlljnclaaGreatDoor
end
section
namespace Go.Proofs.YteipiejlljnclaaGreatDoor
open Go Go.AL
attribute [local irreducible] run opK opD callK

theorem c_short (a : List Nat) (d : Nat) (ha : Sm a) (hd : 0 < d ∧ d < 4294967296) : CT 214 [dat a, .data (iv .u32 d)]
  {val := .tup [.sl 1 (u32s (limbs (val a / d))), iv .u32 (val a % d : Nat)], args := [dat a, .data (iv .u32 d)] } := by
 obtain ⟨hA, hl⟩ := ha
 refine Ctr.intro ⟨Tryz.f214, _, Tryz.call214, Tryz.func214, fold_body (by rfl) (by kernel_rfl), (by simp [Tryz.ntmps214]), (by simp), (by kernel_rfl), ?_⟩
 refine wks ?_
 refine wk0 ?_
 refine run_loop [0, 1, 6, 7, 8] [11] (α := {s : Nat × List Nat × Nat // s.1 ≤ a.length ∧ s.2.1.length = a.length ∧ Lim s.2.1 ∧ s.2.2 < d ∧ val (a.drop s.1) = d * val (s.2.1.drop s.1) + s.2.2})
  (fun s => ⟨[(0, .sl 1 (u32s a)), (1, iv .u32 d), (6, .hs ⟨11, 1⟩ 0 a.length), (7, iv .u32 s.1.2.2), (8, iv .i64 ((s.1.1 : Int) - 1))], [(11, ⟨1, true, false, .cells 1 (u32s s.1.2.1)⟩)]⟩)
  (fun s => s.1.1) ⟨(a.length, List.replicate a.length 0, 0), by simp [Lim.zeros, val]; omega⟩ rfl ?_
 rintro ⟨⟨i, o, r⟩, hi, ho, hL, hr, hv⟩
 simp only at hi ho hL hr hv
 cases i with
 | zero =>
  simp only [List.drop_zero] at hv
  refine wk0 ?_
  refine callI (c_trim _ ⟨hL.take _, by simp only [List.length_take]; omega⟩) ?_
  refine wk0 ?_
  have e1 : val a / d = val o := by rw [hv, Nat.mul_add_div hd.1, Nat.div_eq_of_lt hr, Nat.add_zero]
  have e2 : val a % d = r := by rw [hv, Nat.mul_add_mod, Nat.mod_eq_of_lt hr]
  have e3 : o.take a.length = o := List.take_of_length_le (by omega)
  exact ⟨⟨u32s_congr (by rw [e3, e1]), vi (by rw [e2])⟩, trivial⟩
 | succ i =>
  have h1 := hA.gd i
  refine wk0 ?_
  refine callI (c_Div32 _ _ _ ⟨hr, h1, hd.2⟩) ?_
  refine wk0 ?_
  refine ⟨⟨(i, _, _), by omega, by simp [ho], hL.set _ (div_lt32 ⟨hr, h1⟩), Nat.mod_lt _ hd.1, ?_⟩, rfl, by simp⟩
  simp only
  rw [drop_gd (l := a) (by omega), drop_gd (l := o.set i _) (by simp; omega), gd_set_eq (by omega), List.drop_set_of_lt (by omega), val, val, hv]
  have e := Nat.div_add_mod (r * 4294967296 + gd a i) d
  have e2 : d * ((r * 4294967296 + gd a i) / d + 4294967296 * val (o.drop (i + 1))) = d * ((r * 4294967296 + gd a i) / d) + 4294967296 * (d * val (o.drop (i + 1))) := by
   rw [Nat.mul_add, Nat.mul_left_comm]
  omega
theorem or_low {x y k : Nat} (hy : y < 2 ^ k) : (x * 2 ^ k) ||| y = x * 2 ^ k + y := by
 have := Nat.two_pow_add_eq_or_of_lt hy x
 rw [Nat.mul_comm]
 exact this.symm
theorem mul_pow_lt {d k : Nat} (hd : d < 4294967296) (hk : k < 32) : d * 2 ^ k < 18446744073709551616 ∧ d * 2 ^ k / 4294967296 < 2 ^ k ∧ 2 ^ k < 4294967296 := by
 have h1 : 2 ^ k < 2 ^ 32 := Nat.pow_lt_pow_right (by decide) hk
 have h2 : d * 2 ^ k < 4294967296 * 2 ^ k := Nat.mul_lt_mul_of_pos_right hd (Nat.pow_pos (by decide))
 have h3 : d * 2 ^ k / 4294967296 < 2 ^ k := by rw [Nat.div_lt_iff_lt_mul (by decide), Nat.mul_comm (2 ^ k)]; exact h2
 exact ⟨by omega, h3, by omega⟩
theorem or_shift {d k c : Nat} (hd : d < 4294967296) (hk : k < 32) (hc : c < 2 ^ k) : c ||| d * 2 ^ k % 4294967296 = d * 2 ^ k % 4294967296 + c := by
 have e : d * 2 ^ k % 4294967296 = (d % 2 ^ (32 - k)) * 2 ^ k := by
  have h1 : (4294967296 : Nat) = 2 ^ (32 - k) * 2 ^ k := by rw [← Nat.pow_add, Nat.sub_add_cancel (by omega)]
  rw [h1, Nat.mul_mod_mul_right]
 rw [e, Nat.or_comm, or_low hc]
theorem shift_place {a o : List Nat} {i k : Nat} (hi : i + 1 < o.length) (hA : Lim a) (hk : k < 32) (hc : gd o i < 2 ^ k) (hv : val (o.take (i + 1)) = val (a.take i) * 2 ^ k) :
  val (((o.set i (gd a i * 2 ^ k % 4294967296 + gd o i)).set (i + 1) (gd a i * 2 ^ k / 4294967296)).take (i + 2)) = val (a.take (i + 1)) * 2 ^ k ∧ gd a i * 2 ^ k % 4294967296 + gd o i < 4294967296 := by
 have hd := hA.gd i
 have ⟨m1, m2, m3⟩ := mul_pow_lt hd hk
 have hlt : gd a i * 2 ^ k % 4294967296 + gd o i < 4294967296 := by
  rw [← or_shift hd hk hc]
  exact Nat.or_lt_two_pow (n := 32) (by omega) (Nat.mod_lt _ (by decide))
 refine ⟨?_, hlt⟩
 rw [val_take_set (by simp; omega), val_take_set (by omega), val_take_succ a, Nat.add_mul, pw_succ]
 rw [val_take_succ] at hv
 generalize gd a i = d at *
 generalize gd o i = c at *
 have e : pw i * (d * 2 ^ k % 4294967296 + c) + pw i * 4294967296 * (d * 2 ^ k / 4294967296) = pw i * d * 2 ^ k + pw i * c := by
  rw [Nat.mul_assoc, ← Nat.mul_add, Nat.mul_assoc, ← Nat.mul_add]
  congr 1
  omega
 omega
theorem c_shift (a : List Nat) (k : Nat) (ha : Sm a) (hk : k < 32) : CT 265 [dat a, .data (iv .u64 k)]
  {val := .hs ⟨0, 0⟩ 0 (a.length + 1), new := [.slc (.cells 1 (u32s (fixL (a.length + 1) (val a * 2 ^ k))))], args := [dat a, .data (iv .u64 k)] } := by
 obtain ⟨hA, hl⟩ := ha
 refine Ctr.intro ⟨Tryz.f265, _, Tryz.call265, Tryz.func265, fold_body (by rfl) (by kernel_rfl), (by simp [Tryz.ntmps265]), (by simp), (by kernel_rfl), ?_⟩
 refine wks ?_
 refine wk0 ?_
 refine run_loop [1, 5, 13, 14, 15] [12] (α := {s : Nat × List Nat // s.1 ≤ a.length ∧ s.2.length = a.length + 1 ∧ Lim s.2 ∧ gd s.2 s.1 < 2 ^ k ∧ val (s.2.take (s.1 + 1)) = val (a.take s.1) * 2 ^ k})
  (fun s => ⟨[(1, iv .u64 k), (5, .hs ⟨12, 1⟩ 0 (a.length + 1)), (13, .sl 1 (u32s a)), (14, iv .i64 a.length), (15, iv .i64 s.1.1)], [(12, ⟨1, true, false, .cells 1 (u32s s.1.2)⟩)]⟩)
  (fun s => a.length - s.1.1) ⟨(0, List.replicate (a.length + 1) 0), by simp [Lim.zeros, val, val_zeros, gd, List.take_replicate]; exact Nat.pow_pos (by decide)⟩ rfl ?_
 rintro ⟨⟨i, o⟩, hi, ho, hL, hc, hv⟩
 simp only at hi ho hL hc hv
 have hd := hA.gd i
 refine wk0 ?_
 refine condK.dec (fun h3 => ?_) (fun h3 => ?_)
 ·have hsp := shift_place (by omega) hA hk hc hv
  have ⟨m1, m2, m3⟩ := mul_pow_lt hd hk
  have hor := or_shift hd hk hc
  have hsh : IntKind.u64.wrap ((gd a i : Int) * 2 ^ min k 64) = ((gd a i * 2 ^ k : Nat) : Int) := shl64 ⟨by omega, m1⟩
  have hmod := Nat.mod_lt (gd a i * 2 ^ k) (show 4294967296 > 0 by decide)
  have hdm : gd a i * 2 ^ k / 4294967296 % 4294967296 = gd a i * 2 ^ k / 4294967296 := Nat.mod_eq_of_lt (by omega)
  have ho2 := hL.gd i
  refine wk3 @hsh @hor @hdm ?_
  refine ⟨⟨(i + 1, (o.set i (gd a i * 2 ^ k % 4294967296 + gd o i)).set (i + 1) (gd a i * 2 ^ k / 4294967296)), by omega, by simp [ho], (hL.set _ hsp.2).set _ (by omega), ?_, ?_⟩, rfl, by simp only; omega⟩
  ·simp only
   rw [gd_set_eq (by simp; omega)]
   exact m2
  ·exact hsp.1
 ·have hie : i = a.length := by omega
  subst hie
  refine wk0 ?_
  refine ⟨⟨by omega, u32s_congr ?_⟩, by simp [VC]⟩
  have hv2 : val o = val a * 2 ^ k := by rw [← val_take_all (l := o) (n := a.length + 1) (by omega), hv, List.take_length]
  rw [List.take_of_length_le (by omega), ← hv2, ← ho, fixL_eq hL]
end Go.Proofs.YteipiejlljnclaaGreatDoor
end
