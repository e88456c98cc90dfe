/- Natural numbers of the program: what its functions compute. Their conditions stand in each: limbs below 2^32, lists of fewer than 2^40 limbs. -/
import Derived.Test.YteipiejlljnclaaGreatDoorRCa2
set_option linter.unusedVariables false
set_option linter.unusedSimpArgs false
set_option maxRecDepth 10000
set_option maxHeartbeats 4000000
section
namespace Go.Proofs.YteipiejlljnclaaGreatDoor
open Go Go.AL
attribute [local irreducible] run opK opD callK
attribute [go_sem] u32s_zeros u32s_set roomy
structure Nm (l : List Nat) : Prop where
 lim : Lim l
 len : l.length < 1099511627776
structure Sm (l : List Nat) : Prop where
 lim : Lim l
 len : l.length < 68719476736
theorem Sm.nm {l : List Nat} (h : Sm l) : Nm l := ⟨h.lim, by have := h.len; omega⟩
theorem Sm.of {n : Nat} {l : List Nat} (h : Sm l) (hn : n ≤ val l) : Sm (limbs n) := ⟨lim_limbs n, Nat.lt_of_le_of_lt (limbs_len_le (Nat.lt_of_le_of_lt hn (val_lt h.lim))) h.len⟩
theorem Sm.limbs {l : List Nat} (h : Sm l) : Sm (limbs (val l)) := h.of (Nat.le_refl _)
@[go_sem] abbrev dat (l : List Nat) : PA := .data (.sl 1 (u32s l))
theorem u32s_congr {a b : List Nat} (h : a = b) : u32s a = u32s b := by rw [h]
theorem c_trim (l : List Nat) (h : Nm l) : CT 210 [dat l] { val := .sl 1 (u32s (limbs (val l))), args := [dat l] } := by
 obtain ⟨h1, h2⟩ := h
 refine Ctr.intro ⟨Tryz.f210, _, Tryz.call210, Tryz.func210, fold_body (by rfl) (by kernel_rfl), (by simp [Tryz.ntmps210]), (by simp), (by kernel_rfl), ?_⟩
 refine wks ?_
 refine wk0 ?_
 refine run_loop [0] [] (α := {xs : List Nat // limbs (val xs) = limbs (val l) ∧ xs.length < 1099511627776 ∧ Lim xs}) (fun x => ⟨[(0, .sl 1 (u32s x.1))], []⟩) (fun x => x.1.length) ⟨l, rfl, h2, h1⟩ rfl ?_
 rintro ⟨xs, hx, hl, hL⟩
 refine wk0 ?_
 refine guardK.dec (fun h => ?_) (fun h => ?_)
 ·refine wk0 ?_
  refine condK.dec (fun h2 => ?_) (fun h2 => ?_)
  ·refine wk0 ?_
   refine ⟨⟨xs.take (xs.length - 1), ?_, ?_, hL.take _⟩, rfl, ?_⟩
   ·rw [← hx, val_take_pred (k := xs.length - 1) (by omega) (by omega)]
   ·simp only [List.length_take]; omega
   ·simp only [List.length_take]; omega
  ·refine wk0 ?_
   refine ⟨u32s_congr ?_, trivial⟩
   rw [← hx, limbs_val hL]
   intro k hk h0
   rw [hk] at h2
   exact h2 (by simpa using h0)
 ·refine wk0 ?_
  refine ⟨u32s_congr ?_, trivial⟩
  have : xs = [] := List.eq_nil_of_length_eq_zero (by omega)
  rw [← hx, this]
  simp [limbs_zero, val]
theorem c_Clone (l : List Nat) (h : l.length < 1099511627776) : CT 209 [dat l] { val := .sl 1 (u32s l), args := [dat l] } := by
 refine Ctr.intro ⟨Tryz.f209, _, Tryz.call209, Tryz.func209, fold_body (by rfl) (by kernel_rfl), (by simp [Tryz.ntmps209]), (by simp), (by kernel_rfl), ?_⟩
 refine wks ?_
 refine wk0 ?_
 split
 ·rename_i h0
  have : l = [] := List.eq_nil_of_length_eq_zero h0
  subst this
  refine wk0 ?_
  intro b
  cases b
  ·refine wk0 ?_
   exact ⟨by simp [u32s], trivial⟩
  ·refine wk0 ?_
   exact ⟨by simp [u32s], trivial⟩
 ·refine wk0 ?_
  exact ⟨⟨by simp [u32s], by rw [List.take_length]⟩, trivial⟩
theorem c_Trim (l : List Nat) (h : Nm l) : CT 159 [dat l] { val := .sl 1 (u32s (limbs (val l))), args := [dat l] } := by
 have hb : (limbs (val l)).length < 1099511627776 := Nat.lt_of_le_of_lt (limbs_len_le (val_lt h.lim)) h.len
 refine Ctr.intro ⟨Tryz.f159, _, Tryz.call159, Tryz.func159, fold_body (by rfl) (by kernel_rfl), (by simp [Tryz.ntmps159]), (by simp), (by kernel_rfl), ?_⟩
 refine wks ?_
 refine wk0 ?_
 refine callI (c_trim l h) ?_
 refine wk0 ?_
 refine callI (c_Clone _ hb) ?_
 refine wk0 ?_
 trivial
theorem wu32_add {a b : Nat} : IntKind.u32.wrap ((a : Int) + (b : Int)) = (((a + b) % 4294967296 : Nat) : Int) := by
 rw [IntKind.wrap]; simp [IntKind.bits, IntKind.signed]
attribute [go_sem] wu32_add
def fixL : Nat → Nat → List Nat
 | 0, _ => []
 | n + 1, v => v % 4294967296 :: fixL n (v / 4294967296)
theorem fixL_len : ∀ (n v : Nat), (fixL n v).length = n
 | 0, _ => rfl
 | n + 1, v => by simp [fixL, fixL_len n]
theorem fixL_lim : ∀ (n v : Nat), Lim (fixL n v)
 | 0, _ => Lim.nil
 | n + 1, v => Lim.cons (Nat.mod_lt _ (by decide)) (fixL_lim n _)
theorem fixL_val : ∀ (n v : Nat), v < pw n → val (fixL n v) = v
 | 0, v, h => by simp [pw] at h; simp [fixL, val, h]
 | n + 1, v, h => by
  rw [pw_succ] at h
  rw [fixL, val, fixL_val n _ (by rw [Nat.div_lt_iff_lt_mul (by decide)]; exact h)]
  omega
theorem fixL_eq : ∀ {o : List Nat}, Lim o → fixL o.length (val o) = o
 | [], _ => rfl
 | d :: o, h => by
  have hd := h.head
  have e1 : val (d :: o) % 4294967296 = d := by simp only [val]; omega
  have e2 : val (d :: o) / 4294967296 = val o := by simp only [val]; omega
  rw [List.length_cons, fixL, e1, e2, fixL_eq h.tail]
theorem vi {k : IntKind} {a b : Int} (h : a = b) : Value.int k a = Value.int k b := by rw [h]
end Go.Proofs.YteipiejlljnclaaGreatDoor
end
section
namespace Go.Proofs.YteipiejlljnclaaGreatDoor
open Go Go.AL
attribute [local irreducible] run opK opD callK

theorem c_fromUint (u : Nat) (h : u < 18446744073709551616) : CT 212 [.data (iv .u64 u)] { val := .sl 1 (u32s (limbs u)), args := [.data (iv .u64 u)] } := by
 have hv : val [u % 4294967296, u / 4294967296 % 4294967296] = u := by rw [val_pair]; omega
 refine Ctr.intro ⟨Tryz.f212, _, Tryz.call212, Tryz.func212, fold_body (by rfl) (by kernel_rfl), (by simp [Tryz.ntmps212]), (by simp), (by kernel_rfl), ?_⟩
 refine wks ?_
 refine wk0 ?_
 refine callI (c_trim [u % 4294967296, u / 4294967296 % 4294967296] ⟨Lim.cons (Nat.mod_lt _ (by decide)) (Lim.cons (Nat.mod_lt _ (by decide)) Lim.nil), by simp⟩) ?_
 refine wk0 ?_
 exact ⟨u32s_congr (by rw [hv]), trivial⟩
theorem or_limb {l : List Nat} {i : Nat} (hL : Lim l) (hi : i < 2) : ibits .or .u64 ((val (l.take i) : Nat) : Int) (IntKind.u64.wrap ((gd l i : Int) * 2 ^ min (32 * (i : Int)).toNat 64)) = ((val (l.take (i + 1)) : Nat) : Int) := by
 have hd := hL.gd i
 rw [val_take_succ]
 rcases (by omega : i = 0 ∨ i = 1) with rfl | rfl
 ·have e : (2 : Int) ^ min (32 * ((0 : Nat) : Int)).toNat 64 = 1 := by decide
  rw [e, Int.mul_one, wu64_nat (by omega)]
  have e2 : val (l.take 0) = 0 := rfl
  rw [e2, bor64 (by omega), pw_zero]
  simp
 ·have e : (2 : Int) ^ min (32 * ((1 : Nat) : Int)).toNat 64 = 4294967296 := by decide
  rw [e, shl32 hd]
  have h0 : val (l.take 1) = val (l.take 0) + pw 0 * gd l 0 := val_take_succ l 0
  have e2 : val (l.take 0) = 0 := rfl
  have := hL.gd 0
  rw [e2, pw_zero] at h0
  have hp : pw 1 = 4294967296 := by simp [pw]
  rw [bor64 (by omega), Nat.or_comm, or_hi (by omega), hp]
  exact congrArg Nat.cast (by omega)
theorem c_toUint (l : List Nat) (h : Lim l ∧ l.length ≤ 2) : CT 211 [dat l] { val := iv .u64 (val l), args := [dat l] } := by
 obtain ⟨hL, hl⟩ := h
 refine Ctr.intro ⟨Tryz.f211, _, Tryz.call211, Tryz.func211, fold_body (by rfl) (by kernel_rfl), (by simp [Tryz.ntmps211]), (by simp), (by kernel_rfl), ?_⟩
 refine wks ?_
 refine wk0 ?_
 refine run_loop [3, 6, 7, 8] [] (α := {i : Nat // i ≤ l.length}) (fun i => ⟨[(3, iv .u64 (val (l.take i.1))), (6, .sl 1 (u32s l)), (7, iv .i64 l.length), (8, iv .i64 i.1)], []⟩) (fun i => l.length - i.1) ⟨0, Nat.zero_le _⟩ rfl ?_
 rintro ⟨i, hi⟩
 have hd := hL.gd i
 refine wk0 ?_
 refine condK.dec (fun h2 => ?_) (fun h2 => ?_)
 ·refine wk0 ?_
  have hi2 : i < 2 := by omega
  rw [or_limb hL hi2]
  exact ⟨⟨i + 1, by omega⟩, rfl, by simp only; omega⟩
 ·refine wk0 ?_
  exact ⟨vi (by rw [val_take_all (by omega)]), trivial⟩
def cmpN (m n : Nat) : Int := if m < n then -1 else if m = n then 0 else 1
theorem cmpN_lt {m n : Nat} (h : m < n) : cmpN m n = -1 := if_pos h
theorem cmpN_gt {m n : Nat} (h : n < m) : cmpN m n = 1 := by rw [cmpN, if_neg (by omega), if_neg (by omega)]
theorem cmpN_eq (m : Nat) : cmpN m m = 0 := by rw [cmpN, if_neg (by omega), if_pos rfl]
theorem limbs_len_lt_iff {m n : Nat} (h : (limbs m).length < (limbs n).length) : m < n := by
 refine Classical.byContradiction fun hn => ?_
 have := limbs_len_mono (m := n) (n := m) (by omega)
 omega
theorem val_split (l : List Nat) (i : Nat) : val l = val (l.take i) + pw i * val (l.drop i) := by
 by_cases h : i ≤ l.length
 ·have := val_append (l.take i) (l.drop i)
  rw [List.take_append_drop, List.length_take, Nat.min_eq_left h] at this
  exact this
 ·rw [List.take_of_length_le (by omega), List.drop_eq_nil_of_le (by omega)]
  simp [val]
theorem drop_gd {l : List Nat} {i : Nat} (h : i < l.length) : l.drop i = gd l i :: l.drop (i + 1) := by
 rw [List.drop_eq_getElem_cons h]
 simp [gd, h]
theorem lex_lt {a b : List Nat} {i : Nat} (hA : Lim a) (hi : i < a.length) (hb : b.length = a.length) (hd : a.drop (i + 1) = b.drop (i + 1)) (h : gd a i < gd b i) : val a < val b := by
 rw [val_split a i, val_split b i, drop_gd hi, drop_gd (l := b) (by omega), hd, val, val]
 have h1 := val_lt (hA.take i)
 rw [List.length_take, Nat.min_eq_left (by omega)] at h1
 have h2 : pw i * (gd a i + 4294967296 * val (b.drop (i + 1))) + pw i ≤ pw i * (gd b i + 4294967296 * val (b.drop (i + 1))) := by
  rw [← Nat.mul_succ]
  exact Nat.mul_le_mul_left _ (by omega)
 omega
theorem c_Cmp (a b : List Nat) (ha : Nm a) (hb : Nm b) : CT 213 [dat a, dat b] { val := iv .i64 (cmpN (val a) (val b)), args := [dat a, dat b] } := by
 refine Ctr.intro ⟨Tryz.f213, _, Tryz.call213, Tryz.func213, fold_body (by rfl) (by kernel_rfl), (by simp [Tryz.ntmps213]), (by simp), (by kernel_rfl), ?_⟩
 refine wks ?_
 refine wk0 ?_
 refine callI (c_trim a ha) ?_
 refine wk0 ?_
 refine callI (c_trim b hb) ?_
 refine wk0 ?_
 have la : (limbs (val a)).length < 1099511627776 := Nat.lt_of_le_of_lt (limbs_len_le (val_lt ha.lim)) ha.len
 have lb : (limbs (val b)).length < 1099511627776 := Nat.lt_of_le_of_lt (limbs_len_le (val_lt hb.lim)) hb.len
 have hA := lim_limbs (val a)
 have hB := lim_limbs (val b)
 have va := val_limbs (val a)
 have vb := val_limbs (val b)
 have hlen := @limbs_len_lt_iff (val a) (val b)
 have hlen2 := @limbs_len_lt_iff (val b) (val a)
 generalize limbs (val a) = x at *
 generalize limbs (val b) = y at *
 refine condK.dec (fun h => ?_) (fun h => ?_)
 ·refine wk0 ?_
  refine condK.dec (fun h2 => ?_) (fun h2 => ?_)
  ·refine wk0 ?_
   exact ⟨vi (cmpN_lt (hlen (by omega))).symm, trivial⟩
  ·refine wk0 ?_
   exact ⟨vi (cmpN_gt (hlen2 (by omega))).symm, trivial⟩
 ·refine wk0 ?_
  have hxy : x.length = y.length := by omega
  refine run_loop [0, 1, 5] [] (α := {i : Nat // i ≤ x.length ∧ x.drop i = y.drop i}) (fun i => ⟨[(0, .sl 1 (u32s x)), (1, .sl 1 (u32s y)), (5, iv .i64 ((i.1 : Int) - 1))], []⟩) (fun i => i.1) ⟨x.length, Nat.le_refl _, by rw [List.drop_length, hxy, List.drop_length]⟩ rfl ?_
  rintro ⟨i, hi, hd⟩
  cases i with
  | zero =>
   refine wk0 ?_
   refine ⟨vi ?_, trivial⟩
   simp only [List.drop_zero] at hd
   rw [← va, ← vb, hd, cmpN_eq]
  | succ i =>
   refine wk0 ?_
   refine vcalm (by kernel_rfl) ?_
   refine condK.dec (fun h2 => ?_) (fun h2 => ?_)
   ·refine wk0 ?_
    refine ⟨vi ?_, trivial⟩
    rw [← va, ← vb, cmpN_lt (lex_lt hA hi hxy.symm hd (by omega))]
   ·refine wk0 ?_
    refine vcalm (by kernel_rfl) ?_
    refine condK.dec (fun h3 => ?_) (fun h3 => ?_)
    ·refine wk0 ?_
     refine ⟨vi ?_, trivial⟩
     rw [← va, ← vb, cmpN_gt (lex_lt hB (by omega) hxy hd.symm (by omega))]
    ·refine wk0 ?_
     refine ⟨⟨i, by omega, ?_⟩, rfl, by simp⟩
     rw [drop_gd (l := x) (by omega), drop_gd (l := y) (by omega), hd]
     congr 1
     omega
end Go.Proofs.YteipiejlljnclaaGreatDoor
end
