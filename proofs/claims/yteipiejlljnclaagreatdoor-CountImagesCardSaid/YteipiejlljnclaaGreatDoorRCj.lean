/- Long division, limb by limb: the guess of a limb, and its test. Plain laws over numbers; their conditions stand in each. -/
import Derived.Test.YteipiejlljnclaaGreatDoorRCa2
import Derived.Test.YteipiejlljnclaaGreatDoorRCg
set_option linter.unusedVariables false
set_option linter.unusedSimpArgs false
set_option maxRecDepth 10000
set_option maxHeartbeats 4000000
section
namespace Go.Proofs.YteipiejlljnclaaGreatDoor
structure Lead (w v uh u1 u2 top sec p : Nat) : Prop where
 pos : 0 < p
 w1 : ((uh * 4294967296 + u1) * 4294967296 + u2) * p ≤ w
 w2 : w < ((uh * 4294967296 + u1) * 4294967296 + u2 + 1) * p
 v1 : (top * 4294967296 + sec) * p ≤ v
 v2 : v < (top * 4294967296 + sec + 1) * p
 lt : w < v * 4294967296
 hut : uh < 4294967296
 hu1 : u1 < 4294967296
 hu2 : u2 < 4294967296
 htop : top < 4294967296
 htp : 0 < top
 hsec : sec < 4294967296
variable {w v uh u1 u2 top sec p g r : Nat}
theorem Lead.uh_le (h : Lead w v uh u1 u2 top sec p) : uh ≤ top := by
 have h1 : ((uh * 4294967296 + u1) * 4294967296 + u2) * p < ((top * 4294967296 + sec + 1) * 4294967296) * p := by
  refine Nat.lt_of_le_of_lt h.w1 (Nat.lt_of_lt_of_le h.lt ?_)
  rw [Nat.mul_right_comm]
  exact Nat.mul_le_mul_right _ (Nat.le_of_lt h.v2)
 have := Nat.lt_of_mul_lt_mul_right h1
 have := h.hu1; have := h.hu2; have := h.hsec
 omega
theorem Lead.vpos (h : Lead w v uh u1 u2 top sec p) : 0 < v := by
 have := Nat.mul_pos (show 0 < top * 4294967296 + sec by have := h.htp; omega) h.pos
 have := h.v1
 omega
theorem Lead.q_lt (h : Lead w v uh u1 u2 top sec p) : w / v < 4294967296 := by
 rw [Nat.div_lt_iff_lt_mul h.vpos, Nat.mul_comm]; exact h.lt
theorem Lead.guess0 (h : Lead w v uh u1 u2 top sec p) : w / v ≤ (uh * 4294967296 + u1) / top := by
 rw [Nat.le_div_iff_mul_le h.htp]
 have h1 : (w / v * (top * 4294967296)) * p < ((uh * 4294967296 + u1 + 1) * 4294967296) * p := by
  calc (w / v * (top * 4294967296)) * p ≤ (w / v * (top * 4294967296 + sec)) * p := Nat.mul_le_mul_right _ (Nat.mul_le_mul_left _ (Nat.le_add_right _ _))
   _ = w / v * ((top * 4294967296 + sec) * p) := Nat.mul_assoc _ _ _
   _ ≤ w / v * v := Nat.mul_le_mul_left _ h.v1
   _ ≤ w := Nat.div_mul_le_self _ _
   _ < _ := h.w2
   _ ≤ _ := Nat.mul_le_mul_right _ (by have := h.hu2; omega)
 have h2 := Nat.lt_of_mul_lt_mul_right h1
 rw [← Nat.mul_assoc] at h2
 have := Nat.lt_of_mul_lt_mul_right h2
 omega
theorem Lead.test (h : Lead w v uh u1 u2 top sec p) (hg : g * top + r = uh * 4294967296 + u1) (ht : r * 4294967296 + u2 < g * sec) : w / v < g := by
 refine Classical.byContradiction fun hn => ?_
 have h1 : (g * (top * 4294967296 + sec)) * p < ((uh * 4294967296 + u1) * 4294967296 + u2 + 1) * p := by
  calc (g * (top * 4294967296 + sec)) * p = g * ((top * 4294967296 + sec) * p) := Nat.mul_assoc _ _ _
   _ ≤ w / v * v := Nat.mul_le_mul (by omega) h.v1
   _ ≤ w := Nat.div_mul_le_self _ _
   _ < _ := h.w2
 have h2 := Nat.lt_of_mul_lt_mul_right h1
 rw [Nat.mul_add, ← Nat.mul_assoc] at h2
 omega
theorem Lead.passed (h : Lead w v uh u1 u2 top sec p) (hg : g * top + r = uh * 4294967296 + u1) (hb : g < 4294967296) (ht : g * sec ≤ r * 4294967296 + u2) : g ≤ w / v + 1 := by
 have h0 : g * (top * 4294967296 + sec) ≤ (uh * 4294967296 + u1) * 4294967296 + u2 := by
  rw [Nat.mul_add, ← Nat.mul_assoc]; omega
 have h1 : g * v ≤ w + v := by
  calc g * v ≤ g * ((top * 4294967296 + sec + 1) * p) := Nat.mul_le_mul_left _ (Nat.le_of_lt h.v2)
   _ = g * (top * 4294967296 + sec) * p + g * p := by rw [Nat.add_mul, Nat.mul_add, Nat.mul_assoc, Nat.one_mul]
   _ ≤ w + v := by
    refine Nat.add_le_add (Nat.le_trans (Nat.mul_le_mul_right _ h0) h.w1) (Nat.le_trans (Nat.mul_le_mul_right p ?_) h.v1)
    have := h.htp; omega
 have h2 : g ≤ (w + v) / v := by rw [Nat.le_div_iff_mul_le h.vpos]; exact h1
 rwa [Nat.add_div_right _ h.vpos] at h2
theorem Lead.broken (h : Lead w v uh u1 u2 top sec p) (hg : g * top + r = uh * 4294967296 + u1) (hr : 4294967296 ≤ r) : g < 4294967296 ∧ g * sec ≤ r * 4294967296 + u2 := by
 have h1 := h.uh_le
 have h2 := h.hu1
 have hb : g < 4294967296 := by
  refine Classical.byContradiction fun hn => ?_
  have : 4294967296 * top ≤ g * top := Nat.mul_le_mul_right _ (by omega)
  omega
 refine ⟨hb, ?_⟩
 have e : g * sec ≤ 4294967295 * 4294967295 := Nat.mul_le_mul (by omega) (by have := h.hsec; omega)
 omega
theorem Lead.guess_lt (h : Lead w v uh u1 u2 top sec p) (hg : g * top + r = uh * 4294967296 + u1) : g < 18446744073709551616 := by
 have : g * 1 ≤ g * top := Nat.mul_le_mul_left _ h.htp
 have := h.hut; have := h.hu1
 omega

theorem sub_digit {u c b : Nat} (hu : u < 4294967296) (hb : b ≤ 1) (hc : c < 18446744073709551616) :
  let d := c % 4294967296
  let y := (u + 36893488147419103232 - d - b) % 18446744073709551616
  y % 4294967296 + d + b = u + 4294967296 * (y / 9223372036854775808) ∧ y / 9223372036854775808 ≤ 1 := by
 simp only
 omega
end Go.Proofs.YteipiejlljnclaaGreatDoor
end
section
namespace Go.Proofs.YteipiejlljnclaaGreatDoor
theorem vsplit (l : List Nat) (i : Nat) : val l = val (l.take i) + pw i * val (l.drop i) := by
 by_cases h : i ≤ l.length
 ·have := val_append (l.take i) (l.drop i)
  rw [List.take_append_drop, List.length_take, Nat.min_eq_left h] at this
  exact this
 ·rw [List.take_of_length_le (by omega), List.drop_eq_nil_of_le (by omega)]
  simp [val]
theorem dgd {l : List Nat} {i : Nat} (h : i < l.length) : l.drop i = gd l i :: l.drop (i + 1) := by
 rw [List.drop_eq_getElem_cons h]
 simp [gd, h]
theorem val_take_lt {l : List Nat} (h : Lim l) (i : Nat) : val (l.take i) < pw i := by
 have := val_lt (h.take i)
 rw [List.length_take] at this
 exact Nat.lt_of_lt_of_le this (pw_le (by omega))
theorem norm_facts {b : List Nat} {n k : Nat} (hb : Lim b) (hn : b.length = n + 1) (h1 : 2147483648 ≤ gd b n * 2 ^ k) (h2 : (gd b n + 1) * 2 ^ k ≤ 4294967296) :
  (limbs (val b * 2 ^ k)).length = n + 1 ∧ 2147483648 ≤ gd (limbs (val b * 2 ^ k)) n := by
 have hv : val b = val (b.take n) + pw n * gd b n := by
  have := val_take_succ b n
  rwa [val_take_all (by omega)] at this
 have hl := val_take_lt hb n
 have hp := pw_pos n
 have hlow : pw n * 2147483648 ≤ val b * 2 ^ k := by
  calc pw n * 2147483648 ≤ pw n * (gd b n * 2 ^ k) := Nat.mul_le_mul_left _ h1
   _ = pw n * gd b n * 2 ^ k := (Nat.mul_assoc _ _ _).symm
   _ ≤ val b * 2 ^ k := Nat.mul_le_mul_right _ (by omega)
 have hhigh : val b * 2 ^ k < pw (n + 1) := by
  calc val b * 2 ^ k < (pw n * (gd b n + 1)) * 2 ^ k := Nat.mul_lt_mul_of_pos_right (by rw [Nat.mul_add]; omega) (Nat.pow_pos (by decide))
   _ = pw n * ((gd b n + 1) * 2 ^ k) := Nat.mul_assoc _ _ _
   _ ≤ pw n * 4294967296 := Nat.mul_le_mul_left _ h2
   _ = pw (n + 1) := (pw_succ n).symm
 have l1 := limbs_len_le hhigh
 have l2 := limbs_len_lt (k := n) (n := val b * 2 ^ k) (by omega)
 have hlen : (limbs (val b * 2 ^ k)).length = n + 1 := by omega
 refine ⟨hlen, ?_⟩
 have hV := val_limbs (val b * 2 ^ k)
 have hL := lim_limbs (val b * 2 ^ k)
 generalize limbs (val b * 2 ^ k) = v at *
 have h3 := val_take_succ v n
 rw [val_take_all (l := v) (by omega)] at h3
 have h4 := val_take_lt hL n
 refine Classical.byContradiction fun hlt => ?_
 have : pw n * (gd v n + 1) ≤ pw n * 2147483648 := Nat.mul_le_mul_left _ (by omega)
 rw [Nat.mul_add] at this
 omega
theorem above_zero {u v : List Nat} {j n : Nat} (hv : Lim v) (hn : v.length = n) (h : val (u.drop (j + 1)) < val v) : val (u.drop (j + n + 1)) = 0 := by
 have h1 := vsplit (u.drop (j + 1)) n
 rw [List.drop_drop, show j + 1 + n = j + n + 1 by omega] at h1
 have h2 := val_lt hv
 rw [hn] at h2
 refine Classical.byContradiction fun hne => ?_
 have : pw n * 1 ≤ pw n * val (u.drop (j + n + 1)) := Nat.mul_le_mul_left _ (by omega)
 omega
theorem lead_of {u v : List Nat} {j n : Nat} (hu : Lim u) (hv : Lim v) (hn : v.length = n + 2) (hl : j + n + 2 < u.length) (ht : 2147483648 ≤ gd v (n + 1)) (h : val (u.drop (j + 1)) < val v) :
  Lead (val (u.drop j)) (val v) (gd u (j + n + 2)) (gd u (j + n + 1)) (gd u (j + n)) (gd v (n + 1)) (gd v n) (pw n) := by
 have hz := above_zero hv hn h
 have hw : val (u.drop j) = val ((u.drop j).take n) + pw n * ((gd u (j + n + 2) * 4294967296 + gd u (j + n + 1)) * 4294967296 + gd u (j + n)) := by
  rw [vsplit (u.drop j) n, List.drop_drop, dgd (l := u) (i := j + n) (by omega), dgd (l := u) (i := j + n + 1) (by omega), dgd (l := u) (i := j + n + 1 + 1) (by omega)]
  have e : val (u.drop (j + n + 1 + 1 + 1)) = 0 := hz
  simp only [val, e]
  congr 2
  have e2 : gd u (j + n + 1 + 1) = gd u (j + n + 2) := rfl
  rw [e2]
  omega
 have hwl := val_take_lt (hu.drop j) n
 have hvv : val v = val (v.take n) + pw n * (gd v (n + 1) * 4294967296 + gd v n) := by
  have h1 := val_take_succ v n
  have h2 := val_take_succ v (n + 1)
  rw [val_take_all (l := v) (n := n + 1 + 1) (by omega), pw_succ] at h2
  rw [h2, h1, Nat.mul_add, Nat.mul_assoc, Nat.mul_comm 4294967296]
  omega
 have hvl := val_take_lt hv n
 refine ⟨pw_pos n, ?_, ?_, ?_, ?_, ?_, hu.gd _, hu.gd _, hu.gd _, hv.gd _, by omega, hv.gd _⟩
 ·rw [hw, Nat.mul_comm]; omega
 ·rw [hw, Nat.mul_comm _ (pw n), Nat.mul_add (pw n) _ 1]; omega
 ·rw [hvv, Nat.mul_comm]; omega
 ·rw [hvv, Nat.mul_comm _ (pw n), Nat.mul_add (pw n) _ 1]; omega
 ·rw [dgd (l := u) (i := j) (by omega), val]
  have := hu.gd j
  omega
theorem round_end {u u2 v : List Nat} {j n g : Nat} (hv : Lim v) (hn : v.length = n) (hVp : 0 < val v) (h : val (u.drop (j + 1)) < val v) (hlen : u2.length = u.length)
  (hlow : u2.take j = u.take j) (hhigh : u2.drop (j + n + 1) = u.drop (j + n + 1)) (hg : val (u.drop j) / val v ≤ g)
  (hs : val (u2.take (j + n + 1)) + pw j * (g * val v) = val (u.take (j + n + 1))) :
  g = val (u.drop j) / val v ∧ val (u2.drop j) < val v ∧ val u = val u2 + pw j * (g * val v) := by
 have hz := above_zero hv hn h
 have e1 := vsplit u (j + n + 1)
 have e2 := vsplit u2 (j + n + 1)
 rw [hhigh, hz] at e2
 rw [hz] at e1
 have e3 : val u = val u2 + pw j * (g * val v) := by omega
 have e4 := vsplit u j
 have e5 := vsplit u2 j
 rw [hlow] at e5
 have e6 : pw j * val (u.drop j) = pw j * (val (u2.drop j) + g * val v) := by rw [Nat.mul_add]; omega
 have e7 := Nat.eq_of_mul_eq_mul_left (pw_pos j) e6
 have e8 : g ≤ val (u.drop j) / val v := by rw [Nat.le_div_iff_mul_le hVp]; omega
 have e9 : g = val (u.drop j) / val v := by omega
 refine ⟨e9, ?_, e3⟩
 have hd := Nat.div_add_mod (val (u.drop j)) (val v)
 have := Nat.mod_lt (val (u.drop j)) hVp
 rw [← e9, Nat.mul_comm] at hd
 omega
theorem mended {a x y V g p P e : Nat} (hx : x < P) (h1 : x + p * (g * V) = a + P) (h2 : y + P * e = x + p * V) (hy : y < P) (hg : g * V ≤ a / p + V) (hgp : 1 ≤ g) (hp : 0 < p) (hpV : p * V < P) : y + p * ((g - 1) * V) = a := by
 have h3 : (g - 1) * V + V = g * V := by rw [← Nat.succ_mul, Nat.succ_eq_add_one, Nat.sub_add_cancel hgp]
 have h4 : p * (g * V) = p * ((g - 1) * V) + p * V := by rw [← h3, Nat.mul_add]
 have h5 : p * ((g - 1) * V) ≤ a := by
  have : (g - 1) * V ≤ a / p := by omega
  calc p * ((g - 1) * V) ≤ p * (a / p) := Nat.mul_le_mul_left _ this
   _ ≤ a := Nat.mul_div_le _ _
 have h6 : y + P * e + p * ((g - 1) * V) = a + P := by omega
 have he : e = 1 := by
  match e, h6 with
  | 0, h6 => omega
  | 1, _ => rfl
  | e + 2, h6 =>
   exfalso
   have h7 : P * 2 ≤ P * (e + 2) := Nat.mul_le_mul_left _ (by omega)
   omega
 rw [he] at h6
 omega
theorem unshift_place {u : List Nat} {i k : Nat} (hu : Lim u) (hk : k < 32) :
  val (u.take (i + 2)) / 2 ^ k % pw (i + 1) = val (u.take (i + 1)) / 2 ^ k % pw i + pw i * ((gd u (i + 1) * 4294967296 + gd u i) / 2 ^ k % 4294967296) := by
 have hp : 0 < 2 ^ k := Nat.pow_pos (by decide)
 have hpw := pw_pos i
 have h1 := val_take_succ u (i + 1)
 have h0 := val_take_succ u i
 have e2 : val (u.take (i + 2)) / 2 ^ k / pw i = (gd u (i + 1) * 4294967296 + gd u i) / 2 ^ k := by
  rw [Nat.div_div_eq_div_mul, Nat.mul_comm, ← Nat.div_div_eq_div_mul]
  congr 1
  have hlt := val_take_lt hu i
  rw [show val (u.take (i + 2)) = val (u.take i) + pw i * (gd u (i + 1) * 4294967296 + gd u i) by rw [h1, h0, pw_succ, Nat.mul_add, Nat.mul_comm (gd u (i + 1)), ← Nat.mul_assoc]; omega,
   Nat.add_mul_div_left _ _ hpw, Nat.div_eq_of_lt hlt, Nat.zero_add]
 have e3 : val (u.take (i + 2)) / 2 ^ k % pw i = val (u.take (i + 1)) / 2 ^ k % pw i := by
  have hsplit : pw (i + 1) * gd u (i + 1) = 2 ^ k * (pw i * (2 ^ (32 - k) * gd u (i + 1))) := by
   rw [pw_succ, show (4294967296 : Nat) = 2 ^ k * 2 ^ (32 - k) by rw [← Nat.pow_add, Nat.add_sub_cancel' (by omega)]]
   simp only [Nat.mul_assoc, Nat.mul_left_comm]
  rw [show val (u.take (i + 2)) = val (u.take (i + 1)) + 2 ^ k * (pw i * (2 ^ (32 - k) * gd u (i + 1))) by rw [← hsplit]; exact h1, Nat.add_mul_div_left _ _ hp, Nat.add_mul_mod_self_left]
 rw [pw_succ, Nat.mod_mul, e2, e3]
theorem top_small {u v : List Nat} {m N k A : Nat} (hv : Lim v) (hn : v.length = N + 2) (hvt : 2147483648 ≤ gd v (N + 1)) (hl : N + 2 ≤ m) (hA : A < pw m) (hk : k < 32) (hu : val u = A * 2 ^ k) : val (u.drop (m + 1 - v.length)) < val v := by
 rw [hn]
 obtain ⟨t, rfl⟩ : ∃ t, m = t + (N + 1) := ⟨m - (N + 1), by omega⟩
 rw [show t + (N + 1) + 1 - (N + 2) = t by omega]
 have h1 := vsplit u t
 have h2 : 2 ^ k ≤ 2147483648 := Nat.pow_le_pow_right (n := 2) (by decide) (show k ≤ 31 by omega)
 have h3 : val u < pw t * (pw (N + 1) * 2147483648) := by
  rw [hu, ← Nat.mul_assoc, ← pw_add]
  exact Nat.mul_lt_mul_of_lt_of_le hA h2 (by decide)
 have h4 : pw t * val (u.drop t) < pw t * (pw (N + 1) * 2147483648) := by omega
 have h5 := Nat.lt_of_mul_lt_mul_left h4
 have h6 := val_take_succ v (N + 1)
 rw [val_take_all (l := v) (by omega)] at h6
 have h7 : pw (N + 1) * 2147483648 ≤ pw (N + 1) * gd v (N + 1) := Nat.mul_le_mul_left _ hvt
 omega
theorem sub_step {x u v : List Nat} {j i c b g : Nat} (hx : Lim x) (hi : j + i < x.length) (hb : b ≤ 1) (hcm : c + g * gd v i < 18446744073709551616) (same : gd x (j + i) = gd u (j + i))
  (inv : val (x.take (j + i)) + pw j * (g * val (v.take i)) = val (u.take (j + i)) + pw (j + i) * (c + b)) :
  val ((x.set (j + i) ((gd x (j + i) + 36893488147419103232 - (c + g * gd v i) % 4294967296 - b) % 18446744073709551616 % 4294967296)).take (j + (i + 1))) + pw j * (g * val (v.take (i + 1))) =
   val (u.take (j + (i + 1))) + pw (j + (i + 1)) * ((c + g * gd v i) / 4294967296 + (gd x (j + i) + 36893488147419103232 - (c + g * gd v i) % 4294967296 - b) % 18446744073709551616 / 9223372036854775808) := by
 rw [← Nat.add_assoc, val_take_set hi, val_take_succ u, val_take_succ v, pw_succ]
 obtain ⟨d1, d2⟩ := sub_digit (hx.gd (j + i)) hb hcm
 have e0 := Nat.div_add_mod (c + g * gd v i) 4294967296
 rw [same] at *
 generalize (gd u (j + i) + 36893488147419103232 - (c + g * gd v i) % 4294967296 - b) % 18446744073709551616 = y at *
 have e1 : pw j * (g * (val (v.take i) + pw i * gd v i)) = pw j * (g * val (v.take i)) + pw (j + i) * (g * gd v i) := by
  rw [Nat.mul_add, Nat.mul_add, pw_add]
  congr 1
  simp only [Nat.mul_assoc, Nat.mul_left_comm]
 have e2 : c + b + y % 4294967296 + g * gd v i = gd u (j + i) + 4294967296 * ((c + g * gd v i) / 4294967296 + y / 9223372036854775808) := by omega
 have e3 := congrArg (pw (j + i) * ·) e2
 simp only [Nat.mul_add] at e3
 rw [e1, Nat.mul_assoc]
 simp only [Nat.mul_add] at inv ⊢
 omega
theorem sub_last {x u : List Nat} {J c b G : Nat} (hx : Lim x) (hi : J < x.length) (hb : b ≤ 1) (hc : c < 4294967296) (same : gd x J = gd u J)
  (inv : val (x.take J) + G = val (u.take J) + pw J * (c + b)) :
  val ((x.set J ((gd x J + 36893488147419103232 - c - b) % 18446744073709551616 % 4294967296)).take (J + 1)) + G =
   val (u.take (J + 1)) + pw (J + 1) * ((gd x J + 36893488147419103232 - c - b) % 18446744073709551616 / 9223372036854775808) ∧ (gd x J + 36893488147419103232 - c - b) % 18446744073709551616 / 9223372036854775808 ≤ 1 := by
 rw [val_take_set hi, val_take_succ u, pw_succ]
 obtain ⟨d1, d2⟩ := sub_digit (c := c) (hx.gd J) hb (by omega)
 rw [Nat.mod_eq_of_lt hc] at d1 d2
 refine ⟨?_, d2⟩
 rw [same] at *
 generalize (gd u J + 36893488147419103232 - c - b) % 18446744073709551616 = y at *
 have e3 := congrArg (pw J * ·) d1
 simp only [Nat.mul_add] at e3 inv
 rw [Nat.mul_assoc]
 omega
theorem back_step {y x v : List Nat} {j i c : Nat} (hi : j + i < y.length) (same : gd y (j + i) = gd x (j + i))
  (inv : val (y.take (j + i)) + pw (j + i) * c = val (x.take (j + i)) + pw j * val (v.take i)) :
  val ((y.set (j + i) ((c + (gd y (j + i) + gd v i)) % 4294967296)).take (j + (i + 1))) + pw (j + (i + 1)) * ((c + (gd y (j + i) + gd v i)) / 4294967296) = val (x.take (j + (i + 1))) + pw j * val (v.take (i + 1)) := by
 rw [← Nat.add_assoc, val_take_set hi, val_take_succ x, val_take_succ v, pw_succ, same]
 have e0 := Nat.div_add_mod (c + (gd x (j + i) + gd v i)) 4294967296
 have e3 := congrArg (pw (j + i) * ·) e0
 simp only [Nat.mul_add] at e3
 have e1 : pw j * (val (v.take i) + pw i * gd v i) = pw j * val (v.take i) + pw (j + i) * gd v i := by
  rw [Nat.mul_add, pw_add, Nat.mul_assoc]
 rw [e1, Nat.mul_assoc]
 omega
theorem back_last {y x : List Nat} {J c G : Nat} (hi : J < y.length) (same : gd y J = gd x J) (inv : val (y.take J) + pw J * c = val (x.take J) + G) :
  val ((y.set J ((gd y J + c) % 4294967296)).take (J + 1)) + pw (J + 1) * ((gd y J + c) / 4294967296) = val (x.take (J + 1)) + G := by
 rw [val_take_set hi, val_take_succ x, pw_succ, same]
 have e0 := Nat.div_add_mod (gd x J + c) 4294967296
 have e3 := congrArg (pw J * ·) e0
 simp only [Nat.mul_add] at e3
 rw [Nat.mul_assoc]
 omega
theorem drop_set_eq {l : List Nat} {i d : Nat} : (l.set i d).drop (i + 1) = l.drop (i + 1) := by rw [List.drop_set_of_lt (by omega)]
theorem drop_more {a b : List Nat} {i : Nat} (h : a.drop i = b.drop i) (k : Nat) : a.drop (i + k) = b.drop (i + k) := by
 rw [← List.drop_drop, ← List.drop_drop, h]
theorem gd_of_drop {a b : List Nat} {i t : Nat} (h : a.drop i = b.drop i) (ht : i ≤ t) : gd a t = gd b t := by
 obtain ⟨s, rfl⟩ : ∃ s, t = i + s := ⟨t - i, by omega⟩
 have := congrArg (fun l => l.getD s 0) h
 simpa [gd, List.getD, List.getElem?_drop] using this
theorem round_val {u u2 v q : List Nat} {j g U : Nat} (hq : j < q.length) (h1 : U = val v * (pw (j + 1) * val (q.drop (j + 1))) + val u) (h2 : val u = val u2 + pw j * (g * val v)) :
  U = val v * (pw j * val ((q.set j g).drop j)) + val u2 := by
 rw [dgd (l := q.set j g) (by simpa using hq), gd_set_eq hq, drop_set_eq, val, h1, h2, pw_succ]
 simp only [Nat.mul_add]
 have e1 : val v * (pw j * g) = pw j * (g * val v) := by rw [Nat.mul_comm, Nat.mul_assoc]
 have e2 : val v * (pw j * (4294967296 * val (q.drop (j + 1)))) = val v * (pw j * 4294967296 * val (q.drop (j + 1))) := by rw [Nat.mul_assoc (pw j)]
 rw [e1, e2]
 omega
end Go.Proofs.YteipiejlljnclaaGreatDoor
end
section
namespace Go.Proofs.YteipiejlljnclaaGreatDoor
open Go Go.AL
attribute [local irreducible] run opK opD callK
def blen (n : Nat) : Nat := if n = 0 then 0 else Nat.log2 n + 1
theorem blen_spec {n k : Nat} (h1 : 2 ^ k ≤ n) (h2 : n < 2 ^ (k + 1)) : blen n = k + 1 := by
 have hn : n ≠ 0 := by have := Nat.pow_pos (n := k) (show 0 < 2 by decide); omega
 rw [blen, if_neg hn]
 have := (Nat.log2_eq_iff hn).2 ⟨h1, h2⟩
 omega
theorem blen_shift {n k : Nat} (h : n / 2 ^ k ≠ 0) : blen n = blen (n / 2 ^ k) + k := by
 have hn : n ≠ 0 := by rintro rfl; simp at h
 obtain ⟨m, hm⟩ : ∃ m, m = Nat.log2 (n / 2 ^ k) := ⟨_, rfl⟩
 have h1 : 2 ^ m ≤ n / 2 ^ k := by rw [hm]; exact Nat.log2_self_le h
 have h2 : n / 2 ^ k < 2 ^ (m + 1) := by rw [hm]; exact Nat.lt_log2_self
 rw [blen_spec h1 h2]
 have hp : 0 < 2 ^ k := Nat.pow_pos (by decide)
 have h3 : 2 ^ (m + k) ≤ n := by rw [Nat.pow_add]; exact (Nat.le_div_iff_mul_le hp).1 h1
 have h4 : n < 2 ^ (m + k + 1) := by
  have := (Nat.div_lt_iff_lt_mul hp).1 h2
  rwa [← Nat.pow_add, show m + 1 + k = m + k + 1 by omega] at this
 rw [blen_spec h3 h4]; omega
theorem wu8_nat {a : Nat} (h : a < 256) : IntKind.u8.wrap (a : Int) = (a : Int) := by
 rw [IntKind.wrap]; simp [IntKind.bits, IntKind.signed]; omega
theorem len32_end {L : List UInt8} (h256 : L.length = 256) (ht : ∀ i, i < 256 → (L.getD i 0).toNat = blen i) {m n : Nat} {b : Int} {q : Prop} (hm : m < 256) (hb : b = 0 ∨ b = 8 ∨ b = 16 ∨ b = 24) (hn : (blen n : Int) = b + blen m) :
  VC (IntKind.u8.wrap (m : Int) < (L.length : Int)) ∧ Value.int IntKind.i64 (IntKind.i64.wrap (b + IntKind.i64.wrap ((L.getD (IntKind.u8.wrap (m : Int)).toNat 0).toNat : Int))) = Value.int IntKind.i64 (blen n) ∧ VC True := by
 rw [wu8_nat hm, toNat_nat, ht m hm]
 have h8 : blen m ≤ 8 := by
  have : ∀ i, i < 256 → blen i ≤ 8 := by decide +kernel
  exact this m hm
 refine ⟨by simp only [VC]; omega, ?_, trivial⟩
 rw [wi64_nat (by omega), w64 (by omega), hn]
theorem c_Len32 (n : Nat) (h : n < 4294967296) : CT 261 [.data (iv .u32 n)] { val := iv .i64 (blen n), args := [.data (iv .u32 n)] } := by
 refine Ctr.intro ⟨Tryz.f261, _, Tryz.call261, Tryz.func261, fold_body (by rfl) (by kernel_rfl), (by simp [Tryz.ntmps261]), (by simp), (by kernel_rfl), ?_⟩
 refine wks ?_
 refine wk0 ?_
 refine condK.dec (fun h1 => ?_) (fun h1 => ?_)
 ·have e1 : blen n = blen (n / 65536) + 16 := blen_shift (k := 16) (by omega)
  refine wk0 ?_
  refine condK.dec (fun h2 => ?_) (fun h2 => ?_)
  ·have e2 : blen (n / 65536) = blen (n / 65536 / 256) + 8 := blen_shift (k := 8) (by omega)
   refine wk0 ?_
   generalize hL : (List.append (List.append _ _) _ : List UInt8) = L
   have h256 : L.length = 256 := by rw [← hL]; rfl
   have ht : ∀ i, i < 256 → (L.getD i 0).toNat = blen i := by rw [← hL]; decide +kernel
   exact len32_end (b := 24) (m := n / 65536 / 256) (q := True) h256 ht (by omega) (by omega) (by omega)
  ·refine wk0 ?_
   generalize hL : (List.append (List.append _ _) _ : List UInt8) = L
   have h256 : L.length = 256 := by rw [← hL]; rfl
   have ht : ∀ i, i < 256 → (L.getD i 0).toNat = blen i := by rw [← hL]; decide +kernel
   exact len32_end (b := 16) (m := n / 65536) (q := True) h256 ht (by omega) (by omega) (by omega)
 ·refine wk0 ?_
  refine condK.dec (fun h2 => ?_) (fun h2 => ?_)
  ·have e2 : blen n = blen (n / 256) + 8 := blen_shift (k := 8) (by omega)
   refine wk0 ?_
   generalize hL : (List.append (List.append _ _) _ : List UInt8) = L
   have h256 : L.length = 256 := by rw [← hL]; rfl
   have ht : ∀ i, i < 256 → (L.getD i 0).toNat = blen i := by rw [← hL]; decide +kernel
   exact len32_end (b := 8) (m := n / 256) (q := True) h256 ht (by omega) (by omega) (by omega)
  ·refine wk0 ?_
   generalize hL : (List.append (List.append _ _) _ : List UInt8) = L
   have h256 : L.length = 256 := by rw [← hL]; rfl
   have ht : ∀ i, i < 256 → (L.getD i 0).toNat = blen i := by rw [← hL]; decide +kernel
   exact len32_end (b := 0) (m := n) (q := True) h256 ht (by omega) (by omega) (by omega)
theorem blen_lt32 {n : Nat} (h : n < 4294967296) (h0 : n ≠ 0) : 1 ≤ blen n ∧ blen n ≤ 32 ∧ 2147483648 ≤ n * 2 ^ (32 - blen n) ∧ n * 2 ^ (32 - blen n) < 4294967296 := by
 have h1 := Nat.log2_self_le h0
 have h2 : n < 2 ^ (Nat.log2 n + 1) := Nat.lt_log2_self
 have h3 : Nat.log2 n < 32 := (Nat.log2_lt h0).2 h
 have e : blen n = Nat.log2 n + 1 := by rw [blen, if_neg h0]
 rw [e]
 generalize Nat.log2 n = k at *
 refine ⟨by omega, by omega, ?_, ?_⟩
 ·have := Nat.mul_le_mul_right (2 ^ (32 - (k + 1))) h1
  rw [← Nat.pow_add, show k + (32 - (k + 1)) = 31 by omega] at this
  exact this
 ·have := Nat.mul_lt_mul_of_pos_right h2 (Nat.pow_pos (n := 32 - (k + 1)) (show 0 < 2 by decide))
  rw [← Nat.pow_add, show k + 1 + (32 - (k + 1)) = 32 by omega] at this
  exact this
theorem c_Zeros32 (n : Nat) (h : n < 4294967296) (h0 : n ≠ 0) : CT 264 [.data (iv .u32 n)] { val := iv .i64 (32 - blen n : Nat), args := [.data (iv .u32 n)] } := by
 have hb := blen_lt32 h h0
 refine Ctr.intro ⟨Tryz.f264, _, Tryz.call264, Tryz.func264, fold_body (by rfl) (by kernel_rfl), (by simp [Tryz.ntmps264]), (by simp), (by kernel_rfl), ?_⟩
 refine wks ?_
 refine wk0 ?_
 refine callI (c_Len32 n h) ?_
 refine wk0 ?_
 exact ⟨vi (by omega), trivial⟩
end Go.Proofs.YteipiejlljnclaaGreatDoor
end
