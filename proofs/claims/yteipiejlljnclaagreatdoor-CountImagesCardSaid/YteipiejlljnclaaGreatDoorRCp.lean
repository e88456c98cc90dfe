/- The oracle's natural numbers (exactpplref01): order, sums, differences, products. Conditions stand in each: limbs below 2^32, fewer than 2^36 or 2^40. -/
import Derived.Test.YteipiejlljnclaaGreatDoorRCn
import Derived.Test.YteipiejlljnclaaGreatDoorRCg
import Derived.Test.YteipiejlljnclaaGreatDoorRCj
set_option linter.unusedVariables false
set_option linter.unusedSimpArgs false
set_option maxRecDepth 10000
set_option maxHeartbeats 4000000
namespace Go.Proofs.YteipiejlljnclaaGreatDoor
open Go Go.AL
attribute [local irreducible] run opK opD callK
theorem c_Cmp1 (a b : List Nat) (ha : Nm a) (hb : Nm b) : CT 228 [dat a, dat b] { val := iv .i64 (cmpN (val a) (val b)), args := [dat a, dat b] } := by
 refine Ctr.intro ⟨Tryz.f228, _, Tryz.call228, Tryz.func228, fold_body (by rfl) (by kernel_rfl), (by simp [Tryz.ntmps228]), (by simp), (by kernel_rfl), ?_⟩
 refine wks ?_
 refine wk0 ?_
 refine callI (c_Trim1 a ha) ?_
 refine wk0 ?_
 refine callI (c_Trim1 b hb) ?_
 refine wk0 ?_
 have la : (limbs (val a)).length < 1099511627776 := Nat.lt_of_le_of_lt (limbs_len_le (val_lt ha.lim)) ha.len
 have lb : (limbs (val b)).length < 1099511627776 := Nat.lt_of_le_of_lt (limbs_len_le (val_lt hb.lim)) hb.len
 have hA := lim_limbs (val a)
 have hB := lim_limbs (val b)
 have va := val_limbs (val a)
 have vb := val_limbs (val b)
 have hlen := @limbs_len_lt_iff (val a) (val b)
 have hlen2 := @limbs_len_lt_iff (val b) (val a)
 generalize limbs (val a) = x at *
 generalize limbs (val b) = y at *
 refine condK.dec (fun h => ?_) (fun h => ?_)
 ·refine wk0 ?_
  refine condK.dec (fun h2 => ?_) (fun h2 => ?_)
  ·refine wk0 ?_
   exact ⟨vi (cmpN_lt (hlen (by omega))).symm, trivial⟩
  ·refine wk0 ?_
   exact ⟨vi (cmpN_gt (hlen2 (by omega))).symm, trivial⟩
 ·refine wk0 ?_
  have hxy : x.length = y.length := by omega
  refine run_loop [0, 1, 5] [] (α := {i : Nat // i ≤ x.length ∧ x.drop i = y.drop i}) (fun i => ⟨[(0, .sl 1 (u32s x)), (1, .sl 1 (u32s y)), (5, iv .i64 ((i.1 : Int) - 1))], []⟩) (fun i => i.1) ⟨x.length, Nat.le_refl _, by rw [List.drop_length, hxy, List.drop_length]⟩ rfl ?_
  rintro ⟨i, hi, hd⟩
  cases i with
  | zero =>
   refine wk0 ?_
   refine ⟨vi ?_, trivial⟩
   simp only [List.drop_zero] at hd
   rw [← va, ← vb, hd, cmpN_eq]
  | succ i =>
   refine wk0 ?_
   refine vcalm (by kernel_rfl) ?_
   refine condK.dec (fun h2 => ?_) (fun h2 => ?_)
   ·refine wk0 ?_
    refine ⟨vi ?_, trivial⟩
    rw [← va, ← vb, cmpN_lt (lex_lt hA hi hxy.symm hd (by omega))]
   ·refine wk0 ?_
    refine vcalm (by kernel_rfl) ?_
    refine condK.dec (fun h3 => ?_) (fun h3 => ?_)
    ·refine wk0 ?_
     refine ⟨vi ?_, trivial⟩
     rw [← va, ← vb, cmpN_gt (lex_lt hB (by omega) hxy hd.symm (by omega))]
    ·refine wk0 ?_
     refine ⟨⟨i, by omega, ?_⟩, rfl, by simp⟩
     rw [drop_gd (l := x) (by omega), drop_gd (l := y) (by omega), hd]
     congr 1
     omega
theorem cmax {m n : Nat} : max (m : Int) (n : Int) = ((max m n : Nat) : Int) := by omega
theorem mul_digit1 {x y o c : Nat} (hx : x < 4294967296) (hy : y < 4294967296) (ho : o < 4294967296) (hc : c < 4294967296) : x * y + o + c < 18446744073709551616 := by
 have := mul32_lt ⟨hx, hy⟩
 omega
theorem c_Add1 (a b : List Nat) (ha : Sm a) (hb : Sm b) : CT 84 [dat a, dat b] { val := .sl 1 (u32s (limbs (val a + val b))), args := [dat a, dat b] } := by
 have hal := ha.len
 have hbl := hb.len
 refine Ctr.intro ⟨Tryz.f84, _, Tryz.call84, Tryz.func84, fold_body (by rfl) (by kernel_rfl), (by simp [Tryz.ntmps84]), (by simp), (by kernel_rfl), ?_⟩
 refine wks ?_
 have hM : max a.length b.length < 68719476736 := by omega
 refine wk1 @cmax ?_
 refine run_loop [0, 1, 5, 6, 7] [14] (α := {s : Nat × List Nat × Nat // s.1 ≤ max a.length b.length + 1 ∧ s.2.1.length = max a.length b.length + 1 ∧ Lim s.2.1 ∧ s.2.2 ≤ 1 ∧ val (s.2.1.take s.1) + pw s.1 * s.2.2 = val (a.take s.1) + val (b.take s.1)})
  (fun s => ⟨[(0, .sl 1 (u32s a)), (1, .sl 1 (u32s b)), (5, .hs ⟨14, 1⟩ 0 (max a.length b.length + 1)), (6, iv .u64 s.1.2.2), (7, iv .i64 s.1.1)], [(14, ⟨1, true, false, .cells 1 (u32s s.1.2.1)⟩)]⟩)
  (fun s => max a.length b.length + 1 - s.1.1) ⟨(0, List.replicate (max a.length b.length + 1) 0, 0), by simp [Lim.zeros, val, pw]⟩ rfl ?_
 have hma : a.length ≤ max a.length b.length := by omega
 have hmb : b.length ≤ max a.length b.length := by omega
 generalize max a.length b.length = M at *
 rintro ⟨⟨i, o, c⟩, hi, ho, hL, hc, hv⟩
 simp only at hi ho hL hc hv
 have h1 := ha.lim.gd i
 have h2 := hb.lim.gd i
 refine wk0 ?_
 refine condK.dec (fun h3 => ?_) (fun h3 => ?_)
 ·have hp := add_place (o := o) (by omega) hv
  have hb1 : (gd a i + gd b i + c) / 4294967296 ≤ 1 := by omega
  have hs : c + gd a i + gd b i = gd a i + gd b i + c := by omega
  have hL2 := hL.set i (d := (gd a i + gd b i + c) % 4294967296) (Nat.mod_lt _ (by decide))
  refine wk0 ?_
  refine condK.dec (fun h4 => ?_) (fun h4 => ?_)
  ·refine wk0 ?_
   refine condK.dec (fun h5 => ?_) (fun h5 => ?_)
   ·refine wk1 @hs ?_
    exact ⟨⟨(i + 1, _, _), by omega, by simp [ho], hL2, hb1, hp⟩, rfl, by simp only; omega⟩
   ·have h0 : gd b i = 0 := gd_of_le (by omega)
    rw [h0, Nat.add_zero] at hs hL2 hb1 hp
    refine wk1 (Nat.add_comm c (gd a i)) ?_
    exact ⟨⟨(i + 1, _, _), by omega, by simp [ho], hL2, hb1, hp⟩, rfl, by simp only; omega⟩
  ·have h0 : gd a i = 0 := gd_of_le (by omega)
   rw [h0, Nat.zero_add] at hL2 hb1 hp
   refine wk0 ?_
   refine condK.dec (fun h5 => ?_) (fun h5 => ?_)
   ·refine wk1 (Nat.add_comm c (gd b i)) ?_
    exact ⟨⟨(i + 1, _, _), by omega, by simp [ho], hL2, hb1, hp⟩, rfl, by simp only; omega⟩
   ·have h0' : gd b i = 0 := gd_of_le (by omega)
    rw [h0', Nat.zero_add] at hL2 hb1 hp
    refine wk0 ?_
    exact ⟨⟨(i + 1, _, _), by omega, by simp [ho], hL2, hb1, hp⟩, rfl, by simp only; omega⟩
 ·have hie : i = M + 1 := by omega
  subst hie
  rw [val_take_all (l := o) (by omega), val_take_all (by omega), val_take_all (l := b) (by omega)] at hv
  have hc0 : c = 0 := by
   refine Classical.byContradiction fun hn => ?_
   have h6 := val_lt ha.lim
   have h7 := val_lt hb.lim
   have h8 : pw a.length ≤ pw M := pw_le hma
   have h9 : pw b.length ≤ pw M := pw_le hmb
   have h10 : pw (M + 1) * 1 ≤ pw (M + 1) * c := Nat.mul_le_mul_left _ (by omega)
   rw [pw_succ] at h10 hv
   have := pw_pos M
   omega
  rw [hc0, Nat.mul_zero, Nat.add_zero] at hv
  refine wk0 ?_
  refine callI (c_Trim1 _ ⟨hL.take _, by simp only [List.length_take]; omega⟩) ?_
  refine wk0 ?_
  exact ⟨u32s_congr (by rw [List.take_of_length_le (by omega), hv]), trivial⟩
theorem wu64_up {a : Nat} (h : a < 4294967296) : IntKind.u64.wrap ((a : Int) + 4294967296) = ((a + 4294967296 : Nat) : Int) := by
 rw [IntKind.wrap]; simp [IntKind.bits, IntKind.signed]; omega
theorem c_Sub1 (a b : List Nat) (ha : Sm a) (hb : Sm b) : CT 180 [dat a, dat b]
  {val := if val a < val b then .tup [.sl 1 (u32s []), iv .i64 1] else .tup [.sl 1 (u32s (limbs (val a - val b))), iv .i64 0], args := [dat a, dat b] } := by
 refine Ctr.intro ⟨Tryz.f180, _, Tryz.call180, Tryz.func180, fold_body (by rfl) (by kernel_rfl), (by simp [Tryz.ntmps180]), (by simp), (by kernel_rfl), ?_⟩
 refine wks ?_
 refine wk0 ?_
 refine callI (c_Cmp1 a b ha.nm hb.nm) ?_
 by_cases hlt : val a < val b
 ·rw [if_pos hlt, cmpN_lt hlt]
  refine wk0 ?_
  exact ⟨by simp [u32s], trivial⟩
 ·have hcmp : ¬ cmpN (val a) (val b) < 0 := by unfold cmpN; rw [if_neg hlt]; split <;> decide
  rw [if_neg hlt]
  refine wk0 ?_
  by_cases h0 : val a = 0
  ·have h0' : val b = 0 := by omega
   refine callI (c_Trim1 a ha.nm) ?_
   refine wk0 ?_
   refine callI (c_Trim1 b hb.nm) ?_
   rw [h0, h0', limbs_zero]
   refine wk0 ?_
   refine run_loop [1, 6, 7, 8] [] (α := Unit) (fun s => ⟨[(1, .sl 1 (u32s [])), (6, .sl 1 (u32s [])), (7, iv .u64 0), (8, iv .i64 0)], []⟩) (fun _ => 0) () rfl ?_
   rintro ⟨⟩
   refine wk0 ?_
   refine callI (c_Trim1 [] ⟨Lim.nil, by simp⟩) ?_
   refine wk0 ?_
   exact ⟨by simp [val, limbs_zero], trivial⟩
  ·refine callI (c_Trim1m a ha.nm (by omega)) ?_
   refine wk0 ?_
   refine callI (c_Trim1 b hb.nm) ?_
   have lx := ha.limbs.len
   have ly := hb.limbs.len
   have hlen := limbs_len_mono (m := val b) (n := val a) (by omega)
   have hA := lim_limbs (val a)
   have hB := lim_limbs (val b)
   have va := val_limbs (val a)
   have vb := val_limbs (val b)
   rw [← va, ← vb] at hlt
   have hres : limbs (val a - val b) = limbs (val (limbs (val a)) - val (limbs (val b))) := by rw [va, vb]
   rw [hres]
   clear hres va vb hcmp h0
   generalize limbs (val a) = x at *
   generalize limbs (val b) = y at *
   refine wk0 ?_
   refine run_loop [1, 6, 7, 8] [16] (α := {s : Nat × List Nat × Nat // s.1 ≤ x.length ∧ s.2.1.length = x.length ∧ Lim s.2.1 ∧ s.2.2 ≤ 1 ∧ (∀ j, s.1 ≤ j → gd s.2.1 j = gd x j) ∧ val (s.2.1.take s.1) + val (y.take s.1) = val (x.take s.1) + pw s.1 * s.2.2})
    (fun s => ⟨[(1, .sl 1 (u32s y)), (6, .hs ⟨16, 1⟩ 0 x.length), (7, iv .u64 s.1.2.2), (8, iv .i64 s.1.1)], [(16, ⟨1, true, false, .cells 1 (u32s s.1.2.1)⟩)]⟩)
    (fun s => x.length - s.1.1) ⟨(0, x, 0), by simp [hA, val, pw]⟩ rfl ?_
   rintro ⟨⟨i, o, c⟩, hi, ho, hL, hc, hs, hv⟩
   simp only at hi ho hL hc hs hv
   have h1 := hL.gd i
   have h2 := hB.gd i
   have hsi := hs i (Nat.le_refl _)
   have hnext : ∀ d, ∀ j, i + 1 ≤ j → gd (o.set i d) j = gd x j := fun d j hj => by rw [gd_set_ne (by omega), hs j (by omega)]
   dsimp only
   clear hs
   refine wk0 ?_
   refine condK.dec (fun h3 => ?_) (fun h3 => ?_)
   ·have hp := sub_place (o := o) hA hB (by omega) hc hv
    have hL2 := hL.set i (d := (gd x i + 8589934592 - gd y i - c) % 4294967296) (Nat.mod_lt _ (by decide))
    rw [← hsi] at hp hL2
    refine wk0 ?_
    refine condK.dec (fun h4 => ?_) (fun h4 => ?_)
    ·refine wk0 ?_
     refine condK.dec (fun h5 => ?_) (fun h5 => ?_)
     ·have e : (gd o i + 4294967296 - (c + gd y i)) % 4294967296 = (gd o i + 8589934592 - gd y i - c) % 4294967296 := by omega
      rw [if_pos (by omega)] at hp
      refine wk2 @e (wu64_up h1) ?_
      exact ⟨⟨(i + 1, _, 1), by omega, by simp [ho], hL2, by simp, hnext _, hp⟩, rfl, by simp only; omega⟩
     ·have e : (gd o i - (c + gd y i)) % 4294967296 = (gd o i + 8589934592 - gd y i - c) % 4294967296 := by omega
      rw [if_neg (by omega)] at hp
      refine wk2 @e (wu64_up h1) ?_
      exact ⟨⟨(i + 1, _, 0), by omega, by simp [ho], hL2, by simp, hnext _, hp⟩, rfl, by simp only; omega⟩
    ·have h0 : gd y i = 0 := gd_of_le (by omega)
     rw [h0] at hp hL2
     simp only [Nat.zero_add] at hp
     refine wk0 ?_
     refine condK.dec (fun h5 => ?_) (fun h5 => ?_)
     ·have e : (gd o i + 4294967296 - c) % 4294967296 = (gd o i + 8589934592 - 0 - c) % 4294967296 := by omega
      rw [if_pos (by omega)] at hp
      refine wk2 @e (wu64_up h1) ?_
      exact ⟨⟨(i + 1, _, 1), by omega, by simp [ho], hL2, by simp, hnext _, hp⟩, rfl, by simp only; omega⟩
     ·have e : (gd o i - c) % 4294967296 = (gd o i + 8589934592 - 0 - c) % 4294967296 := by omega
      rw [if_neg (by omega)] at hp
      refine wk2 @e (wu64_up h1) ?_
      exact ⟨⟨(i + 1, _, 0), by omega, by simp [ho], hL2, by simp, hnext _, hp⟩, rfl, by simp only; omega⟩
   ·have hie : i = x.length := by omega
    subst hie
    rw [val_take_all (l := o) (by omega), val_take_all (Nat.le_refl _), val_take_all (l := y) (by omega)] at hv
    have ho2 := val_lt hL
    rw [ho] at ho2
    have hc0 : c = 0 := by
     rcases (by omega : c = 0 ∨ c = 1) with h | h
     ·exact h
     ·subst h
      omega
    subst hc0
    have hvo : val o = val x - val y := by omega
    have htk : o.take x.length = o := List.take_of_length_le (by omega)
    refine wk0 ?_
    refine callI (c_Trim1 _ ⟨hL.take _, by simp only [List.length_take]; omega⟩) ?_
    refine wk0 ?_
    exact ⟨u32s_congr (by rw [htk, hvo]), trivial⟩
theorem drop_eq_of_gd {a b : List Nat} {k : Nat} (hl : a.length = b.length) (h : ∀ j, k ≤ j → gd a j = gd b j) : a.drop k = b.drop k := by
 refine List.ext_getElem (by simp [hl]) fun i h1 h2 => ?_
 have h3 := h (k + i) (by omega)
 simp only [List.length_drop] at h1 h2
 rw [gd, gd, List.getD, List.getD, List.getElem?_eq_getElem (by omega), List.getElem?_eq_getElem (by omega)] at h3
 simpa using h3
theorem val_set {l : List Nat} {i d : Nat} (h : i < l.length) : val (l.set i d) + pw i * gd l i = val l + pw i * d := by
 have e1 := vsplit (l.set i d) (i + 1)
 have e2 := vsplit l (i + 1)
 rw [drop_set_eq, val_take_set h] at e1
 rw [val_take_succ] at e2
 omega
theorem carry_step {q : List Nat} {j c T : Nat} (hj : j < q.length) (h : val q + pw j * c = T) : val (q.set j ((gd q j + c) % 4294967296)) + pw (j + 1) * ((gd q j + c) / 4294967296) = T := by
 have h1 := val_set (d := (gd q j + c) % 4294967296) hj
 have e : pw j * ((gd q j + c) % 4294967296) + pw (j + 1) * ((gd q j + c) / 4294967296) = pw j * gd q j + pw j * c := by
  rw [pw_succ, Nat.mul_assoc, ← Nat.mul_add, Nat.mod_add_div, Nat.mul_add]
 omega
theorem mul_row {o q b a : List Nat} {i c : Nat} (hl : q.length = o.length) (hs : ∀ j, i + b.length ≤ j → gd q j = gd o j)
  (hv : val o = val (a.take i) * val b) (hw : val (q.take (i + b.length)) + pw (i + b.length) * c = val (o.take (i + b.length)) + pw i * (gd a i * val b)) :
  val q + pw (i + b.length) * c = val (a.take (i + 1)) * val b := by
 have e1 := vsplit q (i + b.length)
 have e2 := vsplit o (i + b.length)
 rw [drop_eq_of_gd hl hs] at e1
 rw [val_take_succ, Nat.add_mul, ← hv, Nat.mul_assoc]
 omega
theorem carry_room {a b q : List Nat} {i j c : Nat} (hA : Lim a) (hB : Lim b) (h : val q + pw j * c = val (a.take i) * val b) (hc : 0 < c) : j < a.length + b.length := by
 have h1 := val_lt (hA.take i)
 have h2 := val_lt hB
 have h3 : pw (a.take i).length ≤ pw a.length := pw_le (by simp only [List.length_take]; omega)
 have h4 : val (a.take i) * val b < pw (a.length + b.length) := by
  rw [pw_add]
  exact Nat.mul_lt_mul_of_lt_of_le (by omega) (Nat.le_of_lt h2) (pw_pos _)
 refine Classical.byContradiction fun hn => ?_
 have h5 : pw (a.length + b.length) ≤ pw j := pw_le (by omega)
 have h6 : pw j * 1 ≤ pw j * c := Nat.mul_le_mul_left _ hc
 omega
theorem c_Mul1 (a b : List Nat) (ha : Sm a) (hb : Sm b) : CT 178 [dat a, dat b] { val := .sl 1 (u32s (limbs (val a * val b))), args := [dat a, dat b] } := by
 have hal := ha.len
 have hbl := hb.len
 have hA := ha.lim
 have hB := hb.lim
 refine Ctr.intro ⟨Tryz.f178, _, Tryz.call178, Tryz.func178, fold_body (by rfl) (by kernel_rfl), (by simp [Tryz.ntmps178]), (by simp), (by kernel_rfl), ?_⟩
 refine wks ?_
 refine wk0 ?_
 refine run_loop [0, 1, 5, 6] [18] (α := {s : Nat × List Nat // s.1 ≤ a.length ∧ s.2.length = a.length + b.length + 1 ∧ Lim s.2 ∧ val s.2 = val (a.take s.1) * val b})
  (fun s => ⟨[(0, .sl 1 (u32s a)), (1, .sl 1 (u32s b)), (5, .hs ⟨18, 1⟩ 0 (a.length + b.length + 1)), (6, iv .i64 s.1.1)], [(18, ⟨1, true, false, .cells 1 (u32s s.1.2)⟩)]⟩)
  (fun s => a.length - s.1.1) ⟨(0, List.replicate (a.length + b.length + 1) 0), by simp [Lim.zeros, val, val_zeros]⟩ rfl ?_
 rintro ⟨⟨i, o⟩, hi, ho, hL, hv⟩
 simp only at hi ho hL hv
 have h1 := hA.gd i
 refine wk0 ?_
 refine condK.dec (fun h3 => ?_) (fun h3 => ?_)
 ·refine wk0 ?_
  refine run_loop [0, 1, 5, 6, 7, 8] [18] (α := {s : Nat × List Nat × Nat // s.1 ≤ b.length ∧ s.2.1.length = a.length + b.length + 1 ∧ Lim s.2.1 ∧ s.2.2 < 4294967296 ∧ (∀ j, i + s.1 ≤ j → gd s.2.1 j = gd o j) ∧ val (s.2.1.take (i + s.1)) + pw (i + s.1) * s.2.2 = val (o.take (i + s.1)) + pw i * (gd a i * val (b.take s.1))})
   (fun s => ⟨[(0, .sl 1 (u32s a)), (1, .sl 1 (u32s b)), (5, .hs ⟨18, 1⟩ 0 (a.length + b.length + 1)), (6, iv .i64 i), (7, iv .u64 s.1.2.2), (8, iv .i64 s.1.1)], [(18, ⟨1, true, false, .cells 1 (u32s s.1.2.1)⟩)]⟩)
   (fun s => b.length - s.1.1) ⟨(0, o, 0), by simp [ho, hL, val]⟩ rfl ?_
  rintro ⟨⟨k, q, c⟩, hk, hq, hM, hc, hs, hw⟩
  simp only at hk hq hM hc hs hw
  have h2 := hB.gd k
  have h5 := hM.gd (i + k)
  refine wk0 ?_
  refine condK.dec (fun h4 => ?_) (fun h4 => ?_)
  ·have hpl := mul_place (o0 := o) (o := q) (y := b) (i := i) (k := k) (c := c) (x := gd a i) (by omega) (hs _ (by omega)) hw
   have hm := mul32_lt ⟨h1, h2⟩
   have hm2 := mul_digit1 h1 h2 h5 hc
   have hcar : (gd a i * gd b k + gd q (i + k) + c) / 4294967296 < 4294967296 := by omega
   have PK : VC ((∀ j, i + k ≤ j → gd q j = gd o j) ∧ _) := ⟨hs, hpl⟩
   clear hs hpl hw hv
   refine wk0 ?_
   refine vcalm (by kernel_rfl) ?_
   refine wk0 ?_
   exact ⟨⟨(k + 1, _, _), by omega, by simp [hq], hM.set _ (Nat.mod_lt _ (by decide)), hcar, fun j hj => by
    rw [gd_set_ne (by omega), PK.1 j (by omega)], PK.2⟩, rfl, by simp only; omega⟩
  ·have hke : k = b.length := by omega
   subst hke
   rw [List.take_length] at hw
   have hrow := mul_row (by omega) hs hv hw
   clear hs hw hv
   refine wk0 ?_
   refine run_loop [0, 1, 5, 6, 7, 10] [18] (α := {s : Nat × List Nat × Nat // s.2.1.length = a.length + b.length + 1 ∧ Lim s.2.1 ∧ s.2.2 < 4294967296 ∧ val s.2.1 + pw s.1 * s.2.2 = val (a.take (i + 1)) * val b})
    (fun s => ⟨[(0, .sl 1 (u32s a)), (1, .sl 1 (u32s b)), (5, .hs ⟨18, 1⟩ 0 (a.length + b.length + 1)), (6, iv .i64 i), (7, iv .u64 s.1.2.2), (10, iv .i64 s.1.1)], [(18, ⟨1, true, false, .cells 1 (u32s s.1.2.1)⟩)]⟩)
    (fun s => a.length + b.length - s.1.1) ⟨(i + b.length, q, c), by simp [hq, hM, hc, hrow]⟩ rfl ?_
   rintro ⟨⟨j, p, e⟩, hp, hP, he, hT⟩
   simp only at hp hP he hT
   have h6 := hP.gd j
   refine wk0 ?_
   refine condK.dec (fun h7 => ?_) (fun h7 => ?_)
   ·have hroom := carry_room hA hB hT (by omega)
    have hstep := carry_step (q := p) (by omega) hT
    have hcar : (gd p j + e) / 4294967296 < 4294967296 := by omega
    refine wk0 ?_
    exact ⟨⟨(j + 1, _, _), by simp [hp], hP.set _ (Nat.mod_lt _ (by decide)), hcar, hstep⟩, rfl, by simp only; omega⟩
   ·have he0 : e = 0 := by omega
    subst he0
    rw [Nat.mul_zero, Nat.add_zero] at hT
    refine wk0 ?_
    exact ⟨⟨(i + 1, p), by omega, hp, hP, hT⟩, rfl, by simp only; omega⟩
 ·have hie : i = a.length := by omega
  subst hie
  refine wk0 ?_
  refine callI (c_Trim1 _ ⟨hL.take _, by simp only [List.length_take]; omega⟩) ?_
  refine wk0 ?_
  exact ⟨u32s_congr (by rw [List.take_of_length_le (by omega), hv, List.take_length]), trivial⟩
end Go.Proofs.YteipiejlljnclaaGreatDoor
