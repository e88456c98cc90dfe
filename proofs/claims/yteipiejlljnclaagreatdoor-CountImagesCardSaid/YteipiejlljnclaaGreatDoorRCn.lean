/- Natural numbers of the program: division with remainder, the greatest common divisor. Conditions: limbs below 2^32, fewer than 2^36. -/
import Derived.Test.YteipiejlljnclaaGreatDoorRCg
import Derived.Test.YteipiejlljnclaaGreatDoorRCl
import Derived.Test.YteipiejlljnclaaGreatDoorRCe
set_option linter.unusedVariables false
set_option linter.unusedSimpArgs false
set_option maxRecDepth 10000
set_option maxHeartbeats 4000000
section
namespace Go.Proofs.YteipiejlljnclaaGreatDoor
open Go Go.AL
attribute [local irreducible] run opK opD callK
theorem c_DivMod (a b : List Nat) (ha : Sm a) (hb : Sm b) (h0 : 0 < val b) : CT 161 [dat a, dat b]
  {val := .tup [.sl 1 (u32s (limbs (val a / val b))), .sl 1 (u32s (limbs (val a % val b))), iv .i64 0], args := [dat a, dat b] } := by
 refine Ctr.intro ⟨Tryz.f161, _, Tryz.call161, Tryz.func161, fold_body (by rfl) (by kernel_rfl), (by simp [Tryz.ntmps161]), (by simp), (by kernel_rfl), ?_⟩
 refine wks ?_
 refine wk0 ?_
 refine callI (c_trim a ha.nm) ?_
 refine wk0 ?_
 refine callI (c_trim b hb.nm) ?_
 have lab := @limbs_len_mono (val b) (val a)
 have lb := @limbs_last (val b)
 obtain ⟨x, ex, vx, hx⟩ : ∃ x, x = limbs (val a) ∧ val x = val a ∧ Sm x := ⟨_, rfl, val_limbs _, ha.limbs⟩
 obtain ⟨y, ey, vy, hy⟩ : ∃ y, y = limbs (val b) ∧ val y = val b ∧ Sm y := ⟨_, rfl, val_limbs _, hb.limbs⟩
 have hne : y ≠ [] := fun h => by rw [ey, limbs_eq_nil] at h; omega
 rw [← ex, ← ey] at lab ⊢
 rw [← ey] at lb
 rw [← vx, ← vy] at lab ⊢
 rw [← vy] at h0
 have exl : limbs (val x) = x := by rw [vx, ex]
 clear ex ey vx vy ha hb
 have hylen : ¬ (y.length : Int) = 0 := fun h => hne (List.eq_nil_of_length_eq_zero (by omega))
 refine wk0 ?_
 refine callI (c_Cmp x y hx.nm hy.nm) ?_
 by_cases hlt : val x < val y
 ·rw [cmpN_lt hlt]
  refine wk0 ?_
  refine callI (c_Clone x hx.nm.len) ?_
  refine wk0 ?_
  rw [Nat.div_eq_of_lt hlt, Nat.mod_eq_of_lt hlt, limbs_zero, exl]
  exact ⟨by simp [u32s], trivial⟩
 ·have hcmp : ¬ cmpN (val x) (val y) < 0 := by unfold cmpN; rw [if_neg hlt]; split <;> decide
  refine wk0 ?_
  refine condK.dec (fun h1 => ?_) (fun h1 => ?_)
  ·have hd := hy.lim.gd 0
   have hyv : val y = gd y 0 := by
    have h2 : y.length = 1 := by omega
    match y, h2 with
    | [d], _ => simp [val, gd]
   refine wk0 ?_
   refine callI (c_short x (gd y 0) hx ⟨by omega, hd⟩) ?_
   have hm : val x % gd y 0 < 18446744073709551616 := Nat.lt_trans (Nat.mod_lt _ (by omega)) (by omega)
   refine wk0 ?_
   refine callI (c_fromUint _ hm) ?_
   refine wk0 ?_
   rw [hyv]
   trivial
  ·obtain ⟨N, hN⟩ : ∃ N, y.length = N + 2 := ⟨y.length - 2, by omega⟩
   refine wk0 ?_
   refine callI (c_long x y N hx hy hN (lb hN) (by have := lab (by omega); omega)) ?_
   refine wk0 ?_
   trivial
theorem c_GCD (a b : List Nat) (ha : Sm a) (hb : Sm b) : CT 160 [dat a, dat b] { val := .sl 1 (u32s (limbs (Nat.gcd (val a) (val b)))), args := [dat a, dat b] } := by
 refine Ctr.intro ⟨Tryz.f160, _, Tryz.call160, Tryz.func160, fold_body (by rfl) (by kernel_rfl), (by simp [Tryz.ntmps160]), (by simp), (by kernel_rfl), ?_⟩
 refine wks ?_
 refine wk0 ?_
 refine callI (c_Trim a ha.nm) ?_
 refine wk0 ?_
 refine callI (c_Trim b hb.nm) ?_
 refine wk0 ?_
 refine run_loop [0, 1] [] (α := {s : Nat × Nat // Sm (limbs s.1) ∧ Sm (limbs s.2) ∧ Nat.gcd s.1 s.2 = Nat.gcd (val a) (val b)})
  (fun s => ⟨[(0, .sl 1 (u32s (limbs s.1.1))), (1, .sl 1 (u32s (limbs s.1.2)))], []⟩) (fun s => s.1.2) ⟨(val a, val b), ha.limbs, hb.limbs, rfl⟩ rfl ?_
 rintro ⟨⟨m, n⟩, hm, hn, hg⟩
 simp only at hm hn hg
 have vm := val_limbs m
 have vn := val_limbs n
 refine wk0 ?_
 have PK : VC (val (limbs m) = m ∧ val (limbs n) = n ∧ m.gcd n = (val a).gcd (val b)) := ⟨vm, vn, hg⟩
 clear vm vn hg
 have step : ∀ {C : Prop}, (0 < n → C) → (n = 0 → C) → C := fun h1 h2 => (Nat.eq_zero_or_pos n).elim h2 h1
 refine guardK.decF (fun h => ?_) (fun h => ?_)
 rotate_left
 ·refine wk0 ?_
  refine condK.dec (fun h1 => ?_) (fun h1 => ?_)
  ·have hn0 : n = 0 := limbs_eq_nil.1 (List.eq_nil_of_length_eq_zero (by omega))
   refine wk0 ?_
   refine ⟨u32s_congr ?_, trivial⟩
   rw [← PK.2.2, hn0, Nat.gcd_zero_right]
  ·have hn0 : 0 < n := Nat.pos_of_ne_zero fun h => h1 (by rw [h, limbs_zero]; rfl)
   refine wk0 ?_
   refine callI (c_DivMod (limbs m) (limbs n) hm hn (by rw [PK.2.1]; exact hn0)) ?_
   rw [PK.1, PK.2.1]
   refine wk0 ?_
   refine ⟨⟨(n, m % n), hn, ?_, ?_⟩, rfl, Nat.mod_lt _ hn0⟩
   ·refine ⟨lim_limbs _, Nat.lt_of_le_of_lt (limbs_len_mono (n := n) (Nat.le_of_lt (Nat.mod_lt _ hn0))) hn.len⟩
   ·simp only
    rw [← PK.2.2, Nat.gcd_comm m n, Nat.gcd_rec n m, Nat.gcd_comm]
 ·refine wk0 ?_
  refine condK.dec (fun h2 => ?_) (fun h2 => ?_)
  ·have hn0 : 0 < n := Nat.pos_of_ne_zero fun h => by rw [h, limbs_zero] at h2; exact absurd h2 (by decide)
   refine wk0 ?_
   refine callI (c_DivMod (limbs m) (limbs n) hm hn (by rw [PK.2.1]; exact hn0)) ?_
   rw [PK.1, PK.2.1]
   refine wk0 ?_
   refine ⟨⟨(n, m % n), hn, ?_, ?_⟩, rfl, Nat.mod_lt _ hn0⟩
   ·refine ⟨lim_limbs _, Nat.lt_of_le_of_lt (limbs_len_mono (n := n) (Nat.le_of_lt (Nat.mod_lt _ hn0))) hn.len⟩
   ·simp only
    rw [← PK.2.2, Nat.gcd_comm m n, Nat.gcd_rec n m, Nat.gcd_comm]
  ·refine wk0 ?_
   have u1 : val (limbs m) < 18446744073709551616 ∧ val (limbs n) < 18446744073709551616 := by
    have e1 := val_lt hm.lim
    have e2 := val_lt hn.lim
    have e3 : pw (limbs m).length ≤ pw 2 := pw_le (by omega)
    have e4 : pw (limbs n).length ≤ pw 2 := pw_le (by omega)
    have e5 : pw 2 = 18446744073709551616 := by decide
    omega
   rw [PK.1, PK.2.1] at u1
   refine callI (c_toUint (limbs m) ⟨hm.lim, by omega⟩) ?_
   refine wk0 ?_
   refine callI (c_toUint (limbs n) ⟨hn.lim, by omega⟩) ?_
   rw [PK.1, PK.2.1]
   refine wk0 ?_
   refine run_loop [8, 9] [] (α := {s : Nat × Nat // s.1 < 18446744073709551616 ∧ s.2 < 18446744073709551616 ∧ Nat.gcd s.1 s.2 = Nat.gcd (val a) (val b)})
    (fun s => ⟨[(8, iv .u64 s.1.1), (9, iv .u64 s.1.2)], []⟩) (fun s => s.1.2) ⟨(m, n), u1.1, u1.2, PK.2.2⟩ rfl ?_
   rintro ⟨⟨x, y⟩, hx, hy, hg⟩
   simp only at hx hy hg
   refine wk0 ?_
   refine condK.dec (fun h3 => ?_) (fun h3 => ?_)
   ·have hm := Nat.mod_lt x (show 0 < y by omega)
    refine wk0 ?_
    refine vcalm (by kernel_rfl) ?_
    refine wk0 ?_
    refine ⟨⟨(y, x % y), hy, by omega, ?_⟩, rfl, by simp only; omega⟩
    simp only
    rw [← hg, Nat.gcd_comm x y, Nat.gcd_rec y x, Nat.gcd_comm]
   ·have hy0 : y = 0 := by omega
    subst hy0
    rw [Nat.gcd_zero_right] at hg
    refine wk0 ?_
    refine callI (c_fromUint x hx) ?_
    refine wk0 ?_
    exact ⟨u32s_congr (by rw [hg]), trivial⟩
end Go.Proofs.YteipiejlljnclaaGreatDoor
end
section
namespace Go.Proofs.YteipiejlljnclaaGreatDoor
open Go Go.AL
attribute [local irreducible] run opK opD callK
theorem take_limbs {l : List Nat} {n : Nat} (h : Lim l) (hn : n ≤ l.length) (hv : limbs (val (l.take n)) = limbs (val l)) (h0 : 0 < n → gd l (n - 1) ≠ 0) : l.take n = limbs (val l) := by
 rw [← hv, limbs_val (h.take _)]
 intro k hk
 rw [List.length_take] at hk
 have hk2 : n = k + 1 := by omega
 subst hk2
 have := h0 (by omega)
 simpa [gd] using this
theorem c_Trim1 (l : List Nat) (h : Nm l) : CT 155 [dat l] { val := .sl 1 (u32s (limbs (val l))), args := [dat l] } := by
 refine Ctr.intro ⟨Tryz.f155, _, Tryz.call155, Tryz.func155, fold_body (by rfl) (by kernel_rfl), (by simp [Tryz.ntmps155]), (by simp), (by kernel_rfl), ?_⟩
 refine wks ?_
 refine wk0 ?_
 refine run_loop [0, 3] [] (α := {n : Nat // n ≤ l.length ∧ limbs (val (l.take n)) = limbs (val l)}) (fun n => ⟨[(0, .sl 1 (u32s l)), (3, iv .i64 n.1)], []⟩) (fun n => n.1) ⟨l.length, Nat.le_refl _, by rw [List.take_length]⟩ rfl ?_
 rintro ⟨n, hn, hv⟩
 have h2 := h.len
 refine wk0 ?_
 refine guardK.dec (fun h3 => ?_) (fun h3 => ?_)
 ·refine wk0 ?_
  refine condK.dec (fun h4 => ?_) (fun h4 => ?_)
  ·refine wk0 ?_
   refine ⟨⟨n - 1, by omega, ?_⟩, ?_, ?_⟩
   ·rw [← hv]
    have := val_take_pred (l := l.take n) (k := n - 1) (by simp only [List.length_take]; omega) (by
     have h5 : gd (l.take n) (n - 1) = gd l (n - 1) := by simp [gd, List.getElem?_take, show n - 1 < n by omega]
     rw [h5]; omega)
    rw [← this, List.take_take, Nat.min_eq_left (by omega)]
   ·have h5 : ((n : Int) - 1) = ((n - 1 : Nat) : Int) := by omega
    rw [h5]
    rfl
   ·simp only; omega
  ·refine wk0 ?_
   refine ⟨⟨Nat.le_refl _, u32s_congr ?_⟩, trivial⟩
   rw [List.take_length, take_limbs h.lim hn hv (fun _ => by omega)]
 ·refine wk0 ?_
  refine ⟨⟨Nat.le_refl _, u32s_congr ?_⟩, trivial⟩
  rw [List.take_length, take_limbs h.lim hn hv (fun _ => by omega)]
theorem c_Trim1m (l : List Nat) (h : Nm l) (h0 : 0 < val l) : CT 155 [dat l] { val := .hs ⟨0, 0⟩ 0 (limbs (val l)).length, new := [.slc (.cells 1 (u32s (limbs (val l))))], args := [dat l] } := by
 refine Ctr.intro ⟨Tryz.f155, _, Tryz.call155, Tryz.func155, fold_body (by rfl) (by kernel_rfl), (by simp [Tryz.ntmps155]), (by simp), (by kernel_rfl), ?_⟩
 refine wks ?_
 refine wk0 ?_
 refine run_loop [0, 3] [] (α := {n : Nat // n ≤ l.length ∧ limbs (val (l.take n)) = limbs (val l)}) (fun n => ⟨[(0, .sl 1 (u32s l)), (3, iv .i64 n.1)], []⟩) (fun n => n.1) ⟨l.length, Nat.le_refl _, by rw [List.take_length]⟩ rfl ?_
 rintro ⟨n, hn, hv⟩
 have h2 := h.len
 refine wk0 ?_
 refine guardK.dec (fun h3 => ?_) (fun h3 => ?_)
 ·refine wk0 ?_
  refine condK.dec (fun h4 => ?_) (fun h4 => ?_)
  ·refine wk0 ?_
   refine ⟨⟨n - 1, by omega, ?_⟩, ?_, ?_⟩
   ·rw [← hv]
    have := val_take_pred (l := l.take n) (k := n - 1) (by simp only [List.length_take]; omega) (by
     have h5 : gd (l.take n) (n - 1) = gd l (n - 1) := by simp [gd, List.getElem?_take, show n - 1 < n by omega]
     rw [h5]; omega)
    rw [← this, List.take_take, Nat.min_eq_left (by omega)]
   ·have h5 : ((n : Int) - 1) = ((n - 1 : Nat) : Int) := by omega
    rw [h5]
    rfl
   ·simp only; omega
  ·rw [← take_limbs h.lim hn hv (fun _ => by omega)]
   refine wk0 ?_
   exact ⟨⟨Nat.le_refl _, by rw [List.take_length]⟩, by simp [VC]⟩
 ·refine wk0 ?_
  exfalso
  have : n = 0 := by omega
  subst this
  rw [List.take_zero, val, limbs_zero] at hv
  have := limbs_eq_nil.1 hv.symm
  omega
theorem c_Same (a b : List Nat) (ha : Nm a) (hb : Nm b) : CT 108 [dat a, dat b] { val := .sc (.bool (decide (a = b))), args := [dat a, dat b] } := by
 have la := ha.len
 have lb := hb.len
 refine Ctr.intro ⟨Tryz.f108, _, Tryz.call108, Tryz.func108, fold_body (by rfl) (by kernel_rfl), (by simp [Tryz.ntmps108]), (by simp), (by kernel_rfl), ?_⟩
 refine wks ?_
 refine wk0 ?_
 refine condK.dec (fun h1 => ?_) (fun h1 => ?_)
 ·have hne : ¬ a = b := fun h => h1 (by rw [h])
  refine wk1 @hne ?_
  exact ⟨by simp, trivial⟩
 ·refine wk0 ?_
  refine run_loop [0, 1, 5] [] (α := {i : Nat // i ≤ a.length ∧ a.take i = b.take i}) (fun i => ⟨[(0, .sl 1 (u32s a)), (1, .sl 1 (u32s b)), (5, iv .i64 i.1)], []⟩) (fun i => a.length - i.1) ⟨0, Nat.zero_le _, by simp⟩ rfl ?_
  rintro ⟨i, hi, hv⟩
  have ab : a.length = b.length := by omega
  have a1 := ha.lim.gd i
  have b1 := hb.lim.gd i
  refine wk0 ?_
  refine condK.dec (fun h2 => ?_) (fun h2 => ?_)
  ·refine wk0 ?_
   refine vcalm (by kernel_rfl) ?_
   refine condK.dec (fun h3 => ?_) (fun h3 => ?_)
   ·have hne : ¬ a = b := fun h => h3 (by rw [h])
    refine wk1 @hne ?_
    exact ⟨by simp, trivial⟩
   ·refine wk0 ?_
    refine ⟨⟨i + 1, by omega, ?_⟩, rfl, by simp only; omega⟩
    have e : gd a i = gd b i := by omega
    simp only [gd, List.getD] at e
    rw [List.take_succ_eq_append_getElem (by omega), List.take_succ_eq_append_getElem (by omega), hv]
    congr 1
    rw [List.getElem?_eq_getElem (by omega), List.getElem?_eq_getElem (by omega)] at e
    simpa using e
  ·have heq : a = b := by
    rw [List.take_of_length_le (by omega), List.take_of_length_le (by omega)] at hv
    exact hv
   refine wk1 @heq ?_
   trivial
end Go.Proofs.YteipiejlljnclaaGreatDoor
end
