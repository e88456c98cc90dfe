/- Which slices are handed over as memory. No condition. -/
import Derived.Test.YteipiejlljnclaaGreatDoorRCa
import Derived.Test.YteipiejlljnclaaGreatDoorRBf
set_option linter.unusedVariables false
set_option linter.unusedSimpArgs false
set_option maxRecDepth 10000
section
namespace Go.Proofs.YteipiejlljnclaaGreatDoor
open Go Go.AL
def smL : List (Nat × Nat) := [(279, 0), (177, 2), (177, 3), (109, 0), (110, 0), (164, 0), (167, 0), (182, 0), (218, 0), (268, 0), (269, 0), (270, 0), (271, 0), (272, 0), (273, 0), (274, 0), (275, 0), (301, 0), (302, 0), (303, 0), (320, 0), (231, 0), (281, 0), (219, 0), (152, 0), (153, 0), (205, 0), (252, 0)]
def SM (f i : Nat) : Bool := smL.any fun p => p.1 == f && p.2 == i
@[go_sem] theorem sm3_0 : SM 3 0 = false := rfl
@[go_sem] theorem sm4_0 : SM 4 0 = false := rfl
@[go_sem] theorem sm5_0 : SM 5 0 = false := rfl
@[go_sem] theorem sm6_0 : SM 6 0 = false := rfl
@[go_sem] theorem sm8_0 : SM 8 0 = false := rfl
@[go_sem] theorem sm9_0 : SM 9 0 = false := rfl
@[go_sem] theorem sm10_0 : SM 10 0 = false := rfl
@[go_sem] theorem sm12_0 : SM 12 0 = false := rfl
@[go_sem] theorem sm13_1 : SM 13 1 = false := rfl
@[go_sem] theorem sm14_1 : SM 14 1 = false := rfl
@[go_sem] theorem sm15_0 : SM 15 0 = false := rfl
@[go_sem] theorem sm15_1 : SM 15 1 = false := rfl
@[go_sem] theorem sm17_1 : SM 17 1 = false := rfl
@[go_sem] theorem sm18_1 : SM 18 1 = false := rfl
@[go_sem] theorem sm19_0 : SM 19 0 = false := rfl
@[go_sem] theorem sm19_1 : SM 19 1 = false := rfl
@[go_sem] theorem sm22_0 : SM 22 0 = false := rfl
@[go_sem] theorem sm22_1 : SM 22 1 = false := rfl
@[go_sem] theorem sm27_0 : SM 27 0 = false := rfl
@[go_sem] theorem sm27_1 : SM 27 1 = false := rfl
@[go_sem] theorem sm28_0 : SM 28 0 = false := rfl
@[go_sem] theorem sm35_1 : SM 35 1 = false := rfl
@[go_sem] theorem sm35_2 : SM 35 2 = false := rfl
@[go_sem] theorem sm36_0 : SM 36 0 = false := rfl
@[go_sem] theorem sm42_1 : SM 42 1 = false := rfl
@[go_sem] theorem sm45_0 : SM 45 0 = false := rfl
@[go_sem] theorem sm46_0 : SM 46 0 = false := rfl
@[go_sem] theorem sm46_1 : SM 46 1 = false := rfl
@[go_sem] theorem sm47_0 : SM 47 0 = false := rfl
@[go_sem] theorem sm47_1 : SM 47 1 = false := rfl
@[go_sem] theorem sm48_0 : SM 48 0 = false := rfl
@[go_sem] theorem sm49_1 : SM 49 1 = false := rfl
@[go_sem] theorem sm50_1 : SM 50 1 = false := rfl
@[go_sem] theorem sm51_0 : SM 51 0 = false := rfl
@[go_sem] theorem sm52_1 : SM 52 1 = false := rfl
@[go_sem] theorem sm54_0 : SM 54 0 = false := rfl
@[go_sem] theorem sm55_0 : SM 55 0 = false := rfl
@[go_sem] theorem sm55_1 : SM 55 1 = false := rfl
@[go_sem] theorem sm58_1 : SM 58 1 = false := rfl
@[go_sem] theorem sm59_0 : SM 59 0 = false := rfl
@[go_sem] theorem sm65_2 : SM 65 2 = false := rfl
@[go_sem] theorem sm67_0 : SM 67 0 = false := rfl
@[go_sem] theorem sm73_0 : SM 73 0 = false := rfl
@[go_sem] theorem sm73_1 : SM 73 1 = false := rfl
@[go_sem] theorem sm75_0 : SM 75 0 = false := rfl
@[go_sem] theorem sm82_0 : SM 82 0 = false := rfl
@[go_sem] theorem sm84_0 : SM 84 0 = false := rfl
@[go_sem] theorem sm84_1 : SM 84 1 = false := rfl
@[go_sem] theorem sm85_1 : SM 85 1 = false := rfl
@[go_sem] theorem sm89_0 : SM 89 0 = false := rfl
@[go_sem] theorem sm89_1 : SM 89 1 = false := rfl
@[go_sem] theorem sm93_1 : SM 93 1 = false := rfl
@[go_sem] theorem sm93_2 : SM 93 2 = false := rfl
@[go_sem] theorem sm95_0 : SM 95 0 = false := rfl
@[go_sem] theorem sm96_0 : SM 96 0 = false := rfl
@[go_sem] theorem sm97_0 : SM 97 0 = false := rfl
@[go_sem] theorem sm98_0 : SM 98 0 = false := rfl
@[go_sem] theorem sm101_0 : SM 101 0 = false := rfl
@[go_sem] theorem sm103_0 : SM 103 0 = false := rfl
@[go_sem] theorem sm104_0 : SM 104 0 = false := rfl
@[go_sem] theorem sm106_0 : SM 106 0 = false := rfl
@[go_sem] theorem sm107_0 : SM 107 0 = false := rfl
@[go_sem] theorem sm107_1 : SM 107 1 = false := rfl
@[go_sem] theorem sm108_0 : SM 108 0 = false := rfl
@[go_sem] theorem sm108_1 : SM 108 1 = false := rfl
@[go_sem] theorem sm109_0 : SM 109 0 = true := rfl
@[go_sem] theorem sm109_1 : SM 109 1 = false := rfl
@[go_sem] theorem sm110_0 : SM 110 0 = true := rfl
@[go_sem] theorem sm111_0 : SM 111 0 = false := rfl
@[go_sem] theorem sm116_0 : SM 116 0 = false := rfl
@[go_sem] theorem sm118_0 : SM 118 0 = false := rfl
@[go_sem] theorem sm118_1 : SM 118 1 = false := rfl
@[go_sem] theorem sm119_0 : SM 119 0 = false := rfl
@[go_sem] theorem sm119_1 : SM 119 1 = false := rfl
@[go_sem] theorem sm138_0 : SM 138 0 = false := rfl
@[go_sem] theorem sm138_1 : SM 138 1 = false := rfl
@[go_sem] theorem sm152_0 : SM 152 0 = true := rfl
@[go_sem] theorem sm153_0 : SM 153 0 = true := rfl
@[go_sem] theorem sm155_0 : SM 155 0 = false := rfl
@[go_sem] theorem sm159_0 : SM 159 0 = false := rfl
@[go_sem] theorem sm160_0 : SM 160 0 = false := rfl
@[go_sem] theorem sm160_1 : SM 160 1 = false := rfl
@[go_sem] theorem sm161_0 : SM 161 0 = false := rfl
@[go_sem] theorem sm161_1 : SM 161 1 = false := rfl
@[go_sem] theorem sm164_0 : SM 164 0 = true := rfl
@[go_sem] theorem sm167_0 : SM 167 0 = true := rfl
@[go_sem] theorem sm171_0 : SM 171 0 = false := rfl
@[go_sem] theorem sm171_1 : SM 171 1 = false := rfl
@[go_sem] theorem sm172_0 : SM 172 0 = false := rfl
@[go_sem] theorem sm174_1 : SM 174 1 = false := rfl
@[go_sem] theorem sm175_0 : SM 175 0 = false := rfl
@[go_sem] theorem sm177_0 : SM 177 0 = false := rfl
@[go_sem] theorem sm177_2 : SM 177 2 = true := rfl
@[go_sem] theorem sm177_3 : SM 177 3 = true := rfl
@[go_sem] theorem sm178_0 : SM 178 0 = false := rfl
@[go_sem] theorem sm178_1 : SM 178 1 = false := rfl
@[go_sem] theorem sm179_1 : SM 179 1 = false := rfl
@[go_sem] theorem sm179_2 : SM 179 2 = false := rfl
@[go_sem] theorem sm180_0 : SM 180 0 = false := rfl
@[go_sem] theorem sm180_1 : SM 180 1 = false := rfl
@[go_sem] theorem sm181_0 : SM 181 0 = false := rfl
@[go_sem] theorem sm182_0 : SM 182 0 = true := rfl
@[go_sem] theorem sm205_0 : SM 205 0 = true := rfl
@[go_sem] theorem sm209_0 : SM 209 0 = false := rfl
@[go_sem] theorem sm210_0 : SM 210 0 = false := rfl
@[go_sem] theorem sm211_0 : SM 211 0 = false := rfl
@[go_sem] theorem sm213_0 : SM 213 0 = false := rfl
@[go_sem] theorem sm213_1 : SM 213 1 = false := rfl
@[go_sem] theorem sm214_0 : SM 214 0 = false := rfl
@[go_sem] theorem sm215_0 : SM 215 0 = false := rfl
@[go_sem] theorem sm215_1 : SM 215 1 = false := rfl
@[go_sem] theorem sm216_0 : SM 216 0 = false := rfl
@[go_sem] theorem sm217_1 : SM 217 1 = false := rfl
@[go_sem] theorem sm217_3 : SM 217 3 = false := rfl
@[go_sem] theorem sm217_4 : SM 217 4 = false := rfl
@[go_sem] theorem sm218_0 : SM 218 0 = true := rfl
@[go_sem] theorem sm219_0 : SM 219 0 = true := rfl
@[go_sem] theorem sm220_0 : SM 220 0 = false := rfl
@[go_sem] theorem sm223_0 : SM 223 0 = false := rfl
@[go_sem] theorem sm225_0 : SM 225 0 = false := rfl
@[go_sem] theorem sm226_0 : SM 226 0 = false := rfl
@[go_sem] theorem sm226_1 : SM 226 1 = false := rfl
@[go_sem] theorem sm227_0 : SM 227 0 = false := rfl
@[go_sem] theorem sm227_1 : SM 227 1 = false := rfl
@[go_sem] theorem sm228_0 : SM 228 0 = false := rfl
@[go_sem] theorem sm228_1 : SM 228 1 = false := rfl
@[go_sem] theorem sm230_0 : SM 230 0 = false := rfl
@[go_sem] theorem sm231_0 : SM 231 0 = true := rfl
@[go_sem] theorem sm252_0 : SM 252 0 = true := rfl
@[go_sem] theorem sm253_0 : SM 253 0 = false := rfl
@[go_sem] theorem sm254_0 : SM 254 0 = false := rfl
@[go_sem] theorem sm255_0 : SM 255 0 = false := rfl
@[go_sem] theorem sm256_0 : SM 256 0 = false := rfl
@[go_sem] theorem sm257_0 : SM 257 0 = false := rfl
@[go_sem] theorem sm259_0 : SM 259 0 = false := rfl
@[go_sem] theorem sm260_0 : SM 260 0 = false := rfl
@[go_sem] theorem sm265_0 : SM 265 0 = false := rfl
@[go_sem] theorem sm266_0 : SM 266 0 = false := rfl
@[go_sem] theorem sm266_1 : SM 266 1 = false := rfl
@[go_sem] theorem sm267_0 : SM 267 0 = false := rfl
@[go_sem] theorem sm267_1 : SM 267 1 = false := rfl
@[go_sem] theorem sm268_0 : SM 268 0 = true := rfl
@[go_sem] theorem sm269_0 : SM 269 0 = true := rfl
@[go_sem] theorem sm270_0 : SM 270 0 = true := rfl
@[go_sem] theorem sm271_0 : SM 271 0 = true := rfl
@[go_sem] theorem sm272_0 : SM 272 0 = true := rfl
@[go_sem] theorem sm273_0 : SM 273 0 = true := rfl
@[go_sem] theorem sm274_0 : SM 274 0 = true := rfl
@[go_sem] theorem sm275_0 : SM 275 0 = true := rfl
@[go_sem] theorem sm276_0 : SM 276 0 = false := rfl
@[go_sem] theorem sm277_0 : SM 277 0 = false := rfl
@[go_sem] theorem sm278_0 : SM 278 0 = false := rfl
@[go_sem] theorem sm279_0 : SM 279 0 = true := rfl
@[go_sem] theorem sm279_1 : SM 279 1 = false := rfl
@[go_sem] theorem sm280_0 : SM 280 0 = false := rfl
@[go_sem] theorem sm281_0 : SM 281 0 = true := rfl
@[go_sem] theorem sm295_0 : SM 295 0 = false := rfl
@[go_sem] theorem sm298_0 : SM 298 0 = false := rfl
@[go_sem] theorem sm299_0 : SM 299 0 = false := rfl
@[go_sem] theorem sm301_0 : SM 301 0 = true := rfl
@[go_sem] theorem sm302_0 : SM 302 0 = true := rfl
@[go_sem] theorem sm303_0 : SM 303 0 = true := rfl
@[go_sem] theorem sm306_0 : SM 306 0 = false := rfl
@[go_sem] theorem sm307_0 : SM 307 0 = false := rfl
@[go_sem] theorem sm319_0 : SM 319 0 = false := rfl
@[go_sem] theorem sm320_0 : SM 320 0 = true := rfl
end Go.Proofs.YteipiejlljnclaaGreatDoor
end
section
namespace Go.Proofs.YteipiejlljnclaaGreatDoor
def val : List Nat → Nat
 | [] => 0
 | d :: l => d + 4294967296 * val l
def Lim (l : List Nat) : Prop := ∀ d ∈ l, d < 4294967296
def limbs (n : Nat) : List Nat := if h : n = 0 then [] else n % 4294967296 :: limbs (n / 4294967296)
termination_by n
decreasing_by omega
def pw (i : Nat) : Nat := 4294967296 ^ i
def gd (l : List Nat) (i : Nat) : Nat := l.getD i 0
theorem pw_zero : pw 0 = 1 := rfl
theorem pw_succ (i : Nat) : pw (i + 1) = pw i * 4294967296 := by simp [pw, Nat.pow_succ]
theorem pw_add (i j : Nat) : pw (i + j) = pw i * pw j := by simp [pw, Nat.pow_add]
theorem pw_pos (i : Nat) : 0 < pw i := Nat.pow_pos (by decide)
theorem pw_le {i j : Nat} (h : i ≤ j) : pw i ≤ pw j := Nat.pow_le_pow_right (by decide) h
theorem val_nil : val [] = 0 := rfl
theorem val_append (a b : List Nat) : val (a ++ b) = val a + pw a.length * val b := by
 induction a with
 | nil => simp [val, pw]
 | cons d a ih =>
  simp only [List.cons_append, val, ih, List.length_cons, pw_succ]
  rw [Nat.mul_add, Nat.mul_comm (pw a.length) 4294967296, Nat.mul_assoc]
  omega
theorem Lim.nil : Lim [] := fun _ h => by cases h
theorem Lim.cons {d : Nat} {l : List Nat} (h : d < 4294967296) (h' : Lim l) : Lim (d :: l) := fun x hx => by
 cases hx with
 | head => exact h
 | tail _ hx => exact h' x hx
theorem Lim.head {d : Nat} {l : List Nat} (h : Lim (d :: l)) : d < 4294967296 := h d (.head _)
theorem Lim.tail {d : Nat} {l : List Nat} (h : Lim (d :: l)) : Lim l := fun x hx => h x (.tail _ hx)
theorem Lim.append {a b : List Nat} (h : Lim a) (h' : Lim b) : Lim (a ++ b) := fun x hx => by
 rcases List.mem_append.1 hx with hx | hx
 ·exact h x hx
 ·exact h' x hx
theorem Lim.take {l : List Nat} (h : Lim l) (n : Nat) : Lim (l.take n) := fun x hx => h x (List.mem_of_mem_take hx)
theorem Lim.drop {l : List Nat} (h : Lim l) (n : Nat) : Lim (l.drop n) := fun x hx => h x (List.mem_of_mem_drop hx)
theorem Lim.set {l : List Nat} (h : Lim l) (i : Nat) {d : Nat} (hd : d < 4294967296) : Lim (l.set i d) := fun x hx => by
 rcases List.mem_or_eq_of_mem_set hx with hx | hx
 ·exact h x hx
 ·rw [hx]; exact hd
theorem Lim.zeros (n : Nat) : Lim (List.replicate n 0) := fun x hx => by rw [List.eq_of_mem_replicate hx]; decide
theorem Lim.gd {l : List Nat} (h : Lim l) (i : Nat) : gd l i < 4294967296 := by
 unfold Go.Proofs.YteipiejlljnclaaGreatDoor.gd
 simp only [List.getD]
 cases hq : l[i]? with
 | none => decide
 | some d => exact h d (List.mem_of_getElem? hq)
theorem val_zeros (n : Nat) : val (List.replicate n 0) = 0 := by
 induction n with
 | zero => rfl
 | succ n ih => simp [List.replicate_succ, val, ih]
theorem val_lt {a : List Nat} (h : Lim a) : val a < pw a.length := by
 induction a with
 | nil => simp [val, pw]
 | cons d a ih =>
  have := ih h.tail
  have := h.head
  simp only [val, List.length_cons, pw_succ]
  omega
theorem gd_of_le {l : List Nat} {i : Nat} (h : l.length ≤ i) : gd l i = 0 := by simp [gd, List.getElem?_eq_none h]
theorem val_take_succ (l : List Nat) (i : Nat) : val (l.take (i + 1)) = val (l.take i) + pw i * gd l i := by
 by_cases h : i < l.length
 ·rw [List.take_succ_eq_append_getElem h, val_append, List.length_take, Nat.min_eq_left (by omega)]
  simp [val, gd, h]
 ·rw [List.take_of_length_le (by omega), List.take_of_length_le (by omega), gd_of_le (by omega)]
  simp
theorem val_take_set {l : List Nat} {i d : Nat} (h : i < l.length) : val ((l.set i d).take (i + 1)) = val (l.take i) + pw i * d := by
 rw [val_take_succ, List.take_set_of_le (Nat.le_refl i)]
 simp [gd, h]
theorem take_set_ge {l : List Nat} {i j d : Nat} (h : j ≤ i) : (l.set i d).take j = l.take j := by
 rw [List.take_set_of_le h]
theorem val_take_all {l : List Nat} {n : Nat} (h : l.length ≤ n) : val (l.take n) = val l := by rw [List.take_of_length_le h]
theorem gd_set_eq {l : List Nat} {i d : Nat} (h : i < l.length) : gd (l.set i d) i = d := by simp [gd, h]
theorem gd_set_ne {l : List Nat} {i j d : Nat} (h : i ≠ j) : gd (l.set i d) j = gd l j := by simp [gd, h]

theorem limbs_zero : limbs 0 = [] := by rw [limbs]; simp
theorem limbs_pos {n : Nat} (h : n ≠ 0) : limbs n = n % 4294967296 :: limbs (n / 4294967296) := by rw [limbs]; simp [h]
theorem val_limbs (n : Nat) : val (limbs n) = n := by
 induction n using Nat.strongRecOn with
 | _ n ih =>
  by_cases h : n = 0
  ·subst h; simp [limbs_zero, val]
  ·rw [limbs_pos h, val, ih _ (by omega)]; omega
theorem lim_limbs (n : Nat) : Lim (limbs n) := by
 induction n using Nat.strongRecOn with
 | _ n ih =>
  by_cases h : n = 0
  ·subst h; rw [limbs_zero]; exact Lim.nil
  ·rw [limbs_pos h]; exact Lim.cons (Nat.mod_lt _ (by decide)) (ih _ (by omega))
theorem limbs_eq_nil {n : Nat} : limbs n = [] ↔ n = 0 := by
 constructor
 ·intro h
  refine Classical.byContradiction fun hn => ?_
  rw [limbs_pos hn] at h
  cases h
 ·rintro rfl; exact limbs_zero
theorem limbs_inj {m n : Nat} (h : limbs m = limbs n) : m = n := by rw [← val_limbs m, h, val_limbs]
theorem limbs_len_le {n k : Nat} (h : n < pw k) : (limbs n).length ≤ k := by
 induction k generalizing n with
 | zero =>
  have : n = 0 := by simp [pw] at h; exact h
  subst this; simp [limbs_zero]
 | succ k ih =>
  by_cases hn : n = 0
  ·subst hn; simp [limbs_zero]
  ·rw [limbs_pos hn, List.length_cons]
   have := ih (n := n / 4294967296) (by rw [Nat.div_lt_iff_lt_mul (by decide), ← pw_succ]; exact h)
   omega
theorem lt_pw_limbs (n : Nat) : n < pw (limbs n).length := by
 have := val_lt (lim_limbs n)
 rwa [val_limbs] at this
theorem limbs_len_lt {n k : Nat} (h : pw k ≤ n) : k < (limbs n).length := by
 refine Classical.byContradiction fun hn => ?_
 have h1 := lt_pw_limbs n
 have h2 := pw_le (i := (limbs n).length) (j := k) (by omega)
 omega
theorem limbs_len_mono {m n : Nat} (h : m ≤ n) : (limbs m).length ≤ (limbs n).length := limbs_len_le (Nat.lt_of_le_of_lt h (lt_pw_limbs n))
theorem limbs_val : ∀ {l : List Nat}, Lim l → (∀ k, l.length = k + 1 → gd l k ≠ 0) → limbs (val l) = l
 | [], _, _ => limbs_zero
 | d :: l, h, hl => by
  have hd := h.head
  have ih := limbs_val (l := l) h.tail (fun k hk => by
   have := hl (k + 1) (by simp [hk])
   simpa [gd] using this)
  have hne : val (d :: l) ≠ 0 := by
   intro h0
   simp only [val] at h0
   have h1 : d = 0 := by omega
   have h2 : val l = 0 := by omega
   rw [h2, limbs_zero] at ih
   subst ih
   exact hl 0 rfl (by simp [gd, h1])
  rw [limbs_pos hne]
  have e1 : val (d :: l) % 4294967296 = d := by simp only [val]; omega
  have e2 : val (d :: l) / 4294967296 = val l := by simp only [val]; omega
  rw [e1, e2, ih]
theorem limbs_last {n k : Nat} (h : (limbs n).length = k + 1) : gd (limbs n) k ≠ 0 := by
 induction k generalizing n with
 | zero =>
  have hn : n ≠ 0 := by rintro rfl; simp [limbs_zero] at h
  rw [limbs_pos hn] at h ⊢
  simp only [List.length_cons] at h
  have h0 : limbs (n / 4294967296) = [] := List.eq_nil_of_length_eq_zero (by omega)
  rw [limbs_eq_nil] at h0
  simp [gd]
  omega
 | succ k ih =>
  have hn : n ≠ 0 := by rintro rfl; simp [limbs_zero] at h
  rw [limbs_pos hn] at h ⊢
  have := ih (n := n / 4294967296) (by simpa using h)
  simpa [gd] using this
theorem val_take_pred {l : List Nat} {k : Nat} (hk : l.length = k + 1) (h : gd l k = 0) : val (l.take k) = val l := by
 have := val_take_succ l k
 rw [h, ← hk, List.take_length] at this
 omega
theorem limbs_small {n : Nat} (h : n ≠ 0) (h' : n < 4294967296) : limbs n = [n] := by
 rw [limbs_pos h, Nat.mod_eq_of_lt h', Nat.div_eq_of_lt h', limbs_zero]
theorem limbs_one : limbs 1 = [1] := limbs_small (by decide) (by decide)
theorem val_single (n : Nat) : val [n] = n := by simp [val]
theorem val_pair (m n : Nat) : val [m, n] = m + 4294967296 * n := by simp [val]
end Go.Proofs.YteipiejlljnclaaGreatDoor
end
section
namespace Go.Proofs.YteipiejlljnclaaGreatDoor
open Go Go.AL
abbrev iv (k : IntKind) (n : Int) : AV := .sc (.int k n)
def u32s (l : List Nat) : List AV := l.map fun n => .sc (.int .u32 (n : Nat))
theorem w64 {n : Int} (h : -9223372036854775808 ≤ n ∧ n < 9223372036854775808) : IntKind.i64.wrap n = n := by
 rw [IntKind.wrap]; simp [IntKind.bits, IntKind.signed]; omega
theorem wu64_add {a b : Nat} (h : a + b < 18446744073709551616) : IntKind.u64.wrap ((a : Int) + (b : Int)) = ((a + b : Nat) : Int) := by
 rw [IntKind.wrap]; simp [IntKind.bits, IntKind.signed]; omega
theorem wu64_mul {a b : Nat} (h : a * b < 18446744073709551616) : IntKind.u64.wrap ((a : Int) * (b : Int)) = ((a * b : Nat) : Int) := by
 rw [IntKind.wrap]; simp only [IntKind.bits, IntKind.signed]; rw [← Int.natCast_mul]; simp; omega
theorem wu64_sub {a b : Nat} (h : b ≤ a ∧ a < 18446744073709551616) : IntKind.u64.wrap ((a : Int) - (b : Int)) = ((a - b : Nat) : Int) := by
 rw [IntKind.wrap]; simp [IntKind.bits, IntKind.signed]; omega
theorem wu64_nat {a : Nat} (h : a < 18446744073709551616) : IntKind.u64.wrap (a : Int) = (a : Int) := by
 rw [IntKind.wrap]; simp [IntKind.bits, IntKind.signed]; omega
theorem wu32_nat {a : Nat} : IntKind.u32.wrap (a : Int) = ((a % 4294967296 : Nat) : Int) := by
 rw [IntKind.wrap]; simp [IntKind.bits, IntKind.signed]
theorem wi64_nat {a : Nat} (h : a < 9223372036854775808) : IntKind.i64.wrap (a : Int) = (a : Int) := w64 (by omega)
theorem shr64 {a k : Nat} (h : k < 64) : Int.fdiv (a : Int) (2 ^ min (Int.toNat (k : Int)) IntKind.u64.bits) = ((a / 2 ^ k : Nat) : Int) := by
 have : min (Int.toNat (k : Int)) IntKind.u64.bits = k := by simp [IntKind.bits]; omega
 rw [this, Int.fdiv_eq_ediv_of_nonneg _ (by exact_mod_cast Nat.zero_le (2 ^ k))]
 simp
theorem shl64 {a k : Nat} (h : k < 64 ∧ a * 2 ^ k < 18446744073709551616) : IntKind.u64.wrap ((a : Int) * 2 ^ min (Int.toNat (k : Int)) IntKind.u64.bits) = ((a * 2 ^ k : Nat) : Int) := by
 have : min (Int.toNat (k : Int)) IntKind.u64.bits = k := by simp [IntKind.bits]; omega
 rw [this]
 have e : (a : Int) * 2 ^ k = ((a * 2 ^ k : Nat) : Int) := by simp
 rw [e, wu64_nat h.2]

theorem ibeq (a b : Int) : (a == b) = decide (a = b) := by by_cases h : a = b <;> simp [h]
theorem ibne (a b : Int) : (a != b) = decide (¬ a = b) := by by_cases h : a = b <;> simp [h]
theorem ite_dp {α : Type} {p : Prop} [Decidable p] {a b : α} (h : p) : (if decide p = true then a else b) = a := by simp [h]
theorem ite_dn {α : Type} {p : Prop} [Decidable p] {a b : α} (h : ¬ p) : (if decide p = true then a else b) = b := by simp [h]
attribute [go_sem] ibeq ibne

theorem callI {C : FuncId → List PA → CRes → Prop} {g : FuncId} {xs : List PA} {F : HoldC} {r : CRes} (h : C g xs r) (hF : F.f r) : @callK C g xs F := ⟨r, h, hF⟩
theorem vcalm {R : Array Oper} {fps : List FP} {q : Prop} (h : calm R fps = true) (hq : q) : VC (calm R fps = true) ∧ q := ⟨h, hq⟩

theorem u32s_len (l : List Nat) : (u32s l).length = l.length := by simp [u32s]
theorem u32s_at {l : List Nat} {i : Nat} (h : i < l.length) : at_ (u32s l) i = .sc (.int .u32 (gd l i : Nat)) := by
 simp [at_, u32s, gd, List.getD, h]
theorem u32s_drop (l : List Nat) (n : Nat) : (u32s l).drop n = u32s (l.drop n) := by simp [u32s]
theorem u32s_take (l : List Nat) (n : Nat) : (u32s l).take n = u32s (l.take n) := by simp [u32s]
theorem u32s_set (l : List Nat) (i d : Nat) : (u32s l).set i (.sc (.int .u32 (d : Nat))) = u32s (l.set i d) := by simp [u32s, List.map_set]
theorem u32s_zeros (n : Nat) : List.replicate n (AV.sc (.int .u32 0)) = u32s (List.replicate n 0) := by simp [u32s]
theorem setPart_u32s (l : List Nat) (i j : Nat) (v : AV) : setPart false 1 1 (at_ (u32s l) i) j v = v := by
 by_cases h : i < l.length
 ·rw [u32s_at h]; simp [setPart]
 ·have : at_ (u32s l) i = .junk := by simp [at_, u32s, List.getD, List.getElem?_eq_none (Nat.le_of_not_lt h)]
  rw [this]; simp [setPart]
attribute [go_sem ↓] setPart_u32s
theorem toNat_nat (n : Nat) : Int.toNat (n : Int) = n := rfl
theorem toNat_pred (n : Nat) : ((n : Int) - 1).toNat = n - 1 := by omega
theorem toNat_succ (n : Nat) : ((n : Int) + 1).toNat = n + 1 := by omega
theorem toNat_subn (m n : Nat) : ((m : Int) - (n : Int)).toNat = m - n := by omega
theorem toNat_addn (m n : Nat) : ((m : Int) + (n : Int)).toNat = m + n := by omega
theorem cast_pred (i : Nat) : (((i + 1 : Nat) : Int)) - 1 = (i : Int) := by omega
theorem toNat_zero : Int.toNat 0 = 0 := rfl
attribute [go_sem] cast_pred Nat.zero_add u32s_len u32s_drop u32s_take toNat_nat toNat_pred toNat_succ toNat_subn toNat_addn toNat_zero
attribute [go_sem] List.getD_cons_zero List.getD_cons_succ Int.sub_zero List.drop_zero List.length_nil List.length_cons List.range_zero List.map_nil List.map_cons List.replicate_zero List.size_toArray List.cons_append AL.distinct List.append_nil List.nil_append List.nodup_nil
attribute [go_sem] bodyPostA exitOK resVals RM.wp outList outsOK outOK cellOut hsOut argsOK outIdx outKeys keptKeys memKeys dataKeys argData
end Go.Proofs.YteipiejlljnclaaGreatDoor
end
section
namespace Go.Proofs.YteipiejlljnclaaGreatDoor
open Go Go.AL
attribute [local irreducible] run opK opD callK
def XT : FuncId → List PA → CRes → Prop := fun _ _ _ => False
abbrev CT := Ctr SM XT Tryz.prog
theorem p64_32 : (2 : Int) ^ min (Int.toNat 32) IntKind.u64.bits = 4294967296 := by decide
theorem p32_31 : (2 : Int) ^ min (Int.toNat 31) IntKind.u32.bits = 2147483648 := by decide
theorem p32_16 : (2 : Int) ^ min (Int.toNat 16) IntKind.u32.bits = 65536 := by decide
theorem p32_8 : (2 : Int) ^ min (Int.toNat 8) IntKind.u32.bits = 256 := by decide
theorem p64_32' : (2 : Int) ^ min (Int.toNat 32) 64 = 4294967296 := by decide
theorem p32_31' : (2 : Int) ^ min (Int.toNat 31) 32 = 2147483648 := by decide
theorem p32_16' : (2 : Int) ^ min (Int.toNat 16) 32 = 65536 := by decide
theorem p32_8' : (2 : Int) ^ min (Int.toNat 8) 32 = 256 := by decide
theorem fdiv32 (a : Nat) : Int.fdiv (a : Int) 4294967296 = ((a / 4294967296 : Nat) : Int) := by rw [Int.fdiv_eq_ediv_of_nonneg _ (by decide)]; simp
theorem fdiv31 (a : Nat) : Int.fdiv (a : Int) 2147483648 = ((a / 2147483648 : Nat) : Int) := by rw [Int.fdiv_eq_ediv_of_nonneg _ (by decide)]; simp
theorem fdiv16 (a : Nat) : Int.fdiv (a : Int) 65536 = ((a / 65536 : Nat) : Int) := by rw [Int.fdiv_eq_ediv_of_nonneg _ (by decide)]; simp
theorem fdiv8 (a : Nat) : Int.fdiv (a : Int) 256 = ((a / 256 : Nat) : Int) := by rw [Int.fdiv_eq_ediv_of_nonneg _ (by decide)]; simp
theorem shl32 {a : Nat} (h : a < 4294967296) : IntKind.u64.wrap ((a : Int) * 4294967296) = ((a * 4294967296 : Nat) : Int) := by
 have : (a : Int) * 4294967296 = ((a * 4294967296 : Nat) : Int) := by simp
 rw [this, wu64_nat (by omega)]
theorem bor64 {a b : Nat} (h : a < 18446744073709551616 ∧ b < 18446744073709551616) : ibits .or .u64 (a : Int) (b : Int) = ((a ||| b : Nat) : Int) := by
 have h1 : a ||| b < 2 ^ 64 := Nat.or_lt_two_pow (by omega) (by omega)
 show IntKind.u64.wrap (((BitVec.ofInt 64 (a : Int)) ||| (BitVec.ofInt 64 (b : Int))).toNat : Int) = _
 rw [BitVec.ofInt_natCast, BitVec.ofInt_natCast, BitVec.toNat_or, BitVec.toNat_ofNat, BitVec.toNat_ofNat, Nat.mod_eq_of_lt (by omega), Nat.mod_eq_of_lt (by omega), wu64_nat (by omega)]
theorem band64 {a b : Nat} (h : a < 18446744073709551616 ∧ b < 18446744073709551616) : ibits .and .u64 (a : Int) (b : Int) = ((a &&& b : Nat) : Int) := by
 have h1 : a &&& b < 2 ^ 64 := Nat.and_lt_two_pow _ (by omega)
 show IntKind.u64.wrap (((BitVec.ofInt 64 (a : Int)) &&& (BitVec.ofInt 64 (b : Int))).toNat : Int) = _
 rw [BitVec.ofInt_natCast, BitVec.ofInt_natCast, BitVec.toNat_and, BitVec.toNat_ofNat, BitVec.toNat_ofNat, Nat.mod_eq_of_lt (by omega), Nat.mod_eq_of_lt (by omega), wu64_nat (by omega)]
theorem bor32 {a b : Nat} (h : a < 4294967296 ∧ b < 4294967296) : ibits .or .u32 (a : Int) (b : Int) = ((a ||| b : Nat) : Int) := by
 have h1 : a ||| b < 2 ^ 32 := Nat.or_lt_two_pow (by omega) (by omega)
 show IntKind.u32.wrap (((BitVec.ofInt 32 (a : Int)) ||| (BitVec.ofInt 32 (b : Int))).toNat : Int) = _
 rw [BitVec.ofInt_natCast, BitVec.ofInt_natCast, BitVec.toNat_or, BitVec.toNat_ofNat, BitVec.toNat_ofNat, Nat.mod_eq_of_lt (by omega), Nat.mod_eq_of_lt (by omega), wu32_nat, Nat.mod_eq_of_lt (by omega)]
theorem band32 {a b : Nat} (h : a < 4294967296 ∧ b < 4294967296) : ibits .and .u32 (a : Int) (b : Int) = ((a &&& b : Nat) : Int) := by
 have h1 : a &&& b < 2 ^ 32 := Nat.and_lt_two_pow _ (by omega)
 show IntKind.u32.wrap (((BitVec.ofInt 32 (a : Int)) &&& (BitVec.ofInt 32 (b : Int))).toNat : Int) = _
 rw [BitVec.ofInt_natCast, BitVec.ofInt_natCast, BitVec.toNat_and, BitVec.toNat_ofNat, BitVec.toNat_ofNat, Nat.mod_eq_of_lt (by omega), Nat.mod_eq_of_lt (by omega), wu32_nat, Nat.mod_eq_of_lt (by omega)]
theorem bxor32 {a b : Nat} (h : a < 4294967296 ∧ b < 4294967296) : ibits .xor .u32 (a : Int) (b : Int) = ((a ^^^ b : Nat) : Int) := by
 have h1 : a ^^^ b < 2 ^ 32 := Nat.xor_lt_two_pow (by omega) (by omega)
 show IntKind.u32.wrap (((BitVec.ofInt 32 (a : Int)) ^^^ (BitVec.ofInt 32 (b : Int))).toNat : Int) = _
 rw [BitVec.ofInt_natCast, BitVec.ofInt_natCast, BitVec.toNat_xor, BitVec.toNat_ofNat, BitVec.toNat_ofNat, Nat.mod_eq_of_lt (by omega), Nat.mod_eq_of_lt (by omega), wu32_nat, Nat.mod_eq_of_lt (by omega)]
theorem bnot32 {a : Nat} (h : a < 4294967296) : ibits .xor .u32 (a : Int) IntKind.u32.max = ((a ^^^ 4294967295 : Nat) : Int) := by
 have : IntKind.u32.max = ((4294967295 : Nat) : Int) := by decide
 rw [this, bxor32 (by omega)]
theorem or_hi {a b : Nat} (h : b < 4294967296) : a * 4294967296 ||| b = a * 4294967296 + b := by
 have := Nat.two_pow_add_eq_or_of_lt (i := 32) (b := b) (by omega) a
 rw [show a * 4294967296 = 2 ^ 32 * a by omega]
 exact this.symm
theorem ln.{u} {α : Type u} : (∀ (l : List α) i a, (l.set i a).length = l.length) ∧ (∀ (l : List α) (n : Nat), (l.take n).length = min n l.length) ∧ (∀ (l : List α) (n : Nat), (l.drop n).length = l.length - n) ∧ (∀ l k : List α, (l ++ k).length = l.length + k.length) ∧ (∀ n (a : α), (List.replicate n a).length = n) ∧ (∀ a (l : List α), (a :: l).length = l.length + 1) ∧ ([] : List α).length = 0 :=
 ⟨fun _ _ _ => List.length_set, fun _ _ => List.length_take, fun _ _ => List.length_drop, fun _ _ => List.length_append, fun _ _ => List.length_replicate, fun _ _ => List.length_cons, List.length_nil⟩
attribute [go_sem] if_true if_false true_or or_true Bool.false_eq_true eq_self and_true true_and or_false false_or Bool.and_true Bool.true_and Bool.and_false Bool.false_and List.length_set List.length_replicate decide_true beq_self_eq_true List.length_append Nat.add_sub_cancel List.all_cons List.all_nil Option.isSome_some Option.isSome_none List.take_succ_cons List.take_zero List.drop_succ_cons Bool.and_self Bool.not_true Bool.not_false and_self List.set_cons_zero List.set_cons_succ
attribute [go_sem] guardK.pos guardK.neg guardK.posF guardK.negF condK.pos condK.neg vc_pos w64 u32s_at ite_dp ite_dn wu64_add wu64_mul wu64_sub wu64_nat wi64_nat shl32 bor64 band64 bor32 band32 bxor32 bnot32 or_hi iv
theorem wk0 {p q : Prop} (hq : q) (h : q → p := by intro  hq; (repeat (first | (simp -implicitDefEqProofs (maxSteps := 10000000) (disch := first | omega | (simp only [ln]; omega)) only [go_sem, reduceIte, Nat.reduceEqDiff, Nat.reduceLT, reduceCtorEq, Nat.reduceLeDiff, Nat.reduceMul, Nat.reduceBEq, Nat.reduceAdd]) | refine run_regE rfl ?_ | refine run_regD rfl ?_)); exact hq) : p := h  hq
theorem wk1 {A1 p q : Prop} (a1 : A1) (hq : q) (h : A1 → q → p := by intro a1 hq; (repeat (first | (simp -implicitDefEqProofs (maxSteps := 10000000) (disch := first | omega | (simp only [ln]; omega)) only [go_sem, reduceIte, Nat.reduceEqDiff, Nat.reduceLT, reduceCtorEq, Nat.reduceLeDiff, Nat.reduceMul, Nat.reduceBEq, Nat.reduceAdd, a1]) | refine run_regE rfl ?_ | refine run_regD rfl ?_)); exact hq) : p := h a1 hq
theorem wk2 {A1 A2 p q : Prop} (a1 : A1) (a2 : A2) (hq : q) (h : A1 → A2 → q → p := by intro a1 a2 hq; (repeat (first | (simp -implicitDefEqProofs (maxSteps := 10000000) (disch := first | omega | (simp only [ln]; omega)) only [go_sem, reduceIte, Nat.reduceEqDiff, Nat.reduceLT, reduceCtorEq, Nat.reduceLeDiff, Nat.reduceMul, Nat.reduceBEq, Nat.reduceAdd, a1, a2]) | refine run_regE rfl ?_ | refine run_regD rfl ?_)); exact hq) : p := h a1 a2 hq
theorem wk3 {A1 A2 A3 p q : Prop} (a1 : A1) (a2 : A2) (a3 : A3) (hq : q) (h : A1 → A2 → A3 → q → p := by intro a1 a2 a3 hq; (repeat (first | (simp -implicitDefEqProofs (maxSteps := 10000000) (disch := first | omega | (simp only [ln]; omega)) only [go_sem, reduceIte, Nat.reduceEqDiff, Nat.reduceLT, reduceCtorEq, Nat.reduceLeDiff, Nat.reduceMul, Nat.reduceBEq, Nat.reduceAdd, a1, a2, a3]) | refine run_regE rfl ?_ | refine run_regD rfl ?_)); exact hq) : p := h a1 a2 a3 hq
theorem wk4 {A1 A2 A3 A4 p q : Prop} (a1 : A1) (a2 : A2) (a3 : A3) (a4 : A4) (hq : q) (h : A1 → A2 → A3 → A4 → q → p := by intro a1 a2 a3 a4 hq; (repeat (first | (simp -implicitDefEqProofs (maxSteps := 10000000) (disch := first | omega | (simp only [ln]; omega)) only [go_sem, reduceIte, Nat.reduceEqDiff, Nat.reduceLT, reduceCtorEq, Nat.reduceLeDiff, Nat.reduceMul, Nat.reduceBEq, Nat.reduceAdd, a1, a2, a3, a4]) | refine run_regE rfl ?_ | refine run_regD rfl ?_)); exact hq) : p := h a1 a2 a3 a4 hq
theorem wk5 {A1 A2 A3 A4 A5 p q : Prop} (a1 : A1) (a2 : A2) (a3 : A3) (a4 : A4) (a5 : A5) (hq : q) (h : A1 → A2 → A3 → A4 → A5 → q → p := by intro a1 a2 a3 a4 a5 hq; (repeat (first | (simp -implicitDefEqProofs (maxSteps := 10000000) (disch := first | omega | (simp only [ln]; omega)) only [go_sem, reduceIte, Nat.reduceEqDiff, Nat.reduceLT, reduceCtorEq, Nat.reduceLeDiff, Nat.reduceMul, Nat.reduceBEq, Nat.reduceAdd, a1, a2, a3, a4, a5]) | refine run_regE rfl ?_ | refine run_regD rfl ?_)); exact hq) : p := h a1 a2 a3 a4 a5 hq
theorem wk6 {A1 A2 A3 A4 A5 A6 p q : Prop} (a1 : A1) (a2 : A2) (a3 : A3) (a4 : A4) (a5 : A5) (a6 : A6) (hq : q) (h : A1 → A2 → A3 → A4 → A5 → A6 → q → p := by intro a1 a2 a3 a4 a5 a6 hq; (repeat (first | (simp -implicitDefEqProofs (maxSteps := 10000000) (disch := first | omega | (simp only [ln]; omega)) only [go_sem, reduceIte, Nat.reduceEqDiff, Nat.reduceLT, reduceCtorEq, Nat.reduceLeDiff, Nat.reduceMul, Nat.reduceBEq, Nat.reduceAdd, a1, a2, a3, a4, a5, a6]) | refine run_regE rfl ?_ | refine run_regD rfl ?_)); exact hq) : p := h a1 a2 a3 a4 a5 a6 hq
theorem wk7 {A1 A2 A3 A4 A5 A6 A7 p q : Prop} (a1 : A1) (a2 : A2) (a3 : A3) (a4 : A4) (a5 : A5) (a6 : A6) (a7 : A7) (hq : q) (h : A1 → A2 → A3 → A4 → A5 → A6 → A7 → q → p := by intro a1 a2 a3 a4 a5 a6 a7 hq; (repeat (first | (simp -implicitDefEqProofs (maxSteps := 10000000) (disch := first | omega | (simp only [ln]; omega)) only [go_sem, reduceIte, Nat.reduceEqDiff, Nat.reduceLT, reduceCtorEq, Nat.reduceLeDiff, Nat.reduceMul, Nat.reduceBEq, Nat.reduceAdd, a1, a2, a3, a4, a5, a6, a7]) | refine run_regE rfl ?_ | refine run_regD rfl ?_)); exact hq) : p := h a1 a2 a3 a4 a5 a6 a7 hq
theorem wk8 {A1 A2 A3 A4 A5 A6 A7 A8 p q : Prop} (a1 : A1) (a2 : A2) (a3 : A3) (a4 : A4) (a5 : A5) (a6 : A6) (a7 : A7) (a8 : A8) (hq : q) (h : A1 → A2 → A3 → A4 → A5 → A6 → A7 → A8 → q → p := by intro a1 a2 a3 a4 a5 a6 a7 a8 hq; (repeat (first | (simp -implicitDefEqProofs (maxSteps := 10000000) (disch := first | omega | (simp only [ln]; omega)) only [go_sem, reduceIte, Nat.reduceEqDiff, Nat.reduceLT, reduceCtorEq, Nat.reduceLeDiff, Nat.reduceMul, Nat.reduceBEq, Nat.reduceAdd, a1, a2, a3, a4, a5, a6, a7, a8]) | refine run_regE rfl ?_ | refine run_regD rfl ?_)); exact hq) : p := h a1 a2 a3 a4 a5 a6 a7 a8 hq
theorem wks {p q : Prop} (hq : q) (h : q → p := by intro hq; simp -implicitDefEqProofs only [↓fold_region, ↓fold_seq, ↓fold_cond, ↓fold_block, ↓fold_loop, ↓fold_skip, ↓fold_exit, ↓fold_ret, entry, enterEnv, enterRows, enterNest, enterVal, enterCells, lenOf, iv, Nat.reduceAdd, List.append_nil, List.nil_append, List.cons_append]; exact hq) : p := h hq
theorem and_lo (a : Nat) : a &&& 4294967295 = a % 4294967296 := Nat.and_two_pow_sub_one_eq_mod a 32
attribute [go_sem] p64_32' p32_31' p32_16' p32_8' p64_32 p32_31 p32_16 p32_8 fdiv32 fdiv31 fdiv16 fdiv8 wu32_nat and_lo

theorem u32_eq {a b : Nat} (h : a = b) : Value.int IntKind.u32 (a : Int) = Value.int IntKind.u32 (b : Int) := by rw [h]
theorem c_Add32 (a b c : Nat) (h : a < 4294967296 ∧ b < 4294967296 ∧ c < 4294967296) : CT 222 [.data (iv .u32 a), .data (iv .u32 b), .data (iv .u32 c)]
  {val := .tup [iv .u32 ((a + b + c) % 4294967296 : Nat), iv .u32 ((a + b + c) / 4294967296 : Nat)], args := [.data (iv .u32 a), .data (iv .u32 b), .data (iv .u32 c)] } := by
 refine Ctr.intro ⟨Tryz.f222, _, Tryz.call222, Tryz.func222, fold_body (by rfl) (by kernel_rfl), (by simp [Tryz.ntmps222]), (by simp), (by kernel_rfl), ?_⟩
 refine wks ?_
 refine wk0 ?_
 exact ⟨u32_eq (by omega), trivial⟩
theorem mul32_lt {a b : Nat} (h : a < 4294967296 ∧ b < 4294967296) : a * b ≤ 18446744065119617025 := Nat.mul_le_mul (Nat.le_of_lt_succ h.1) (Nat.le_of_lt_succ h.2)
theorem c_Mul32 (a b : Nat) (h : a < 4294967296 ∧ b < 4294967296) : CT 221 [.data (iv .u32 a), .data (iv .u32 b)]
  {val := .tup [iv .u32 (a * b / 4294967296 : Nat), iv .u32 (a * b % 4294967296 : Nat)], args := [.data (iv .u32 a), .data (iv .u32 b)] } := by
 have hm := mul32_lt h
 refine Ctr.intro ⟨Tryz.f221, _, Tryz.call221, Tryz.func221, fold_body (by rfl) (by kernel_rfl), (by simp [Tryz.ntmps221]), (by simp), (by kernel_rfl), ?_⟩
 refine wks ?_
 refine wk0 ?_
 exact ⟨u32_eq (by omega), trivial⟩
theorem bit31 {n : Nat} (h : n < 4294967296) : n / 2147483648 = if n.testBit 31 then 1 else 0 := by
 rw [Nat.testBit_eq_decide_div_mod_eq]
 have : n / 2 ^ 31 = n / 2147483648 := rfl
 rw [this]
 by_cases h1 : n / 2147483648 = 1
 ·simp [h1]
 ·have : n / 2147483648 = 0 := by omega
  simp [this]
theorem tb31 {n : Nat} (h : n < 4294967296) : n.testBit 31 = decide (2147483648 ≤ n) := by
 have h1 := bit31 h
 by_cases h2 : 2147483648 ≤ n
 ·rw [decide_eq_true h2]
  cases hq : n.testBit 31 with
  | true => rfl
  | false => rw [hq] at h1; simp at h1; omega
 ·rw [decide_eq_false h2]
  cases hq : n.testBit 31 with
  | false => rfl
  | true => rw [hq] at h1; simp at h1; omega
theorem wrap_sub2 {a b c : Nat} (h : a < 4294967296 ∧ b < 4294967296 ∧ c ≤ 1) : IntKind.u32.wrap (IntKind.u32.wrap ((a : Int) - (b : Int)) - (c : Int)) = (((a + 8589934592 - b - c) % 4294967296 : Nat) : Int) := by
 rw [IntKind.wrap, IntKind.wrap]; simp [IntKind.bits, IntKind.signed]; omega
theorem borrow_bit {x y c : Nat} (h : x < 4294967296 ∧ y < 4294967296 ∧ c ≤ 1) :
  ((x ^^^ 4294967295) &&& y ||| (x ^^^ y ^^^ 4294967295) &&& ((x + 8589934592 - y - c) % 4294967296)) / 2147483648 = if x < y + c then 1 else 0 := by
 have hd : (x + 8589934592 - y - c) % 4294967296 < 4294967296 := Nat.mod_lt _ (by decide)
 generalize hdd : (x + 8589934592 - y - c) % 4294967296 = d at hd
 have hlt : (x ^^^ 4294967295) &&& y ||| (x ^^^ y ^^^ 4294967295) &&& d < 4294967296 :=
  Nat.or_lt_two_pow (n := 32) (Nat.and_lt_two_pow _ h.2.1) (Nat.and_lt_two_pow _ hd)
 have hm : Nat.testBit 4294967295 31 = true := by decide
 rw [bit31 hlt, Nat.testBit_or, Nat.testBit_and, Nat.testBit_and, Nat.testBit_xor, Nat.testBit_xor, Nat.testBit_xor, tb31 h.1, tb31 h.2.1, tb31 hd, hm]
 by_cases h1 : 2147483648 ≤ x <;> by_cases h2 : 2147483648 ≤ y <;> by_cases h3 : 2147483648 ≤ d <;> simp [h1, h2, h3] <;> omega
theorem c_Sub32 (a b c : Nat) (h : a < 4294967296 ∧ b < 4294967296 ∧ c ≤ 1) : CT 300 [.data (iv .u32 a), .data (iv .u32 b), .data (iv .u32 c)]
  {val := .tup [iv .u32 ((a + 8589934592 - b - c) % 4294967296 : Nat), iv .u32 (if a < b + c then 1 else 0 : Nat)], args := [.data (iv .u32 a), .data (iv .u32 b), .data (iv .u32 c)] } := by
 have hw := wrap_sub2 h
 have hd : (a + 8589934592 - b - c) % 4294967296 < 4294967296 := Nat.mod_lt _ (by decide)
 have h1 : a ^^^ 4294967295 < 4294967296 := Nat.xor_lt_two_pow (n := 32) h.1 (by decide)
 have h2 : a ^^^ b < 4294967296 := Nat.xor_lt_two_pow (n := 32) h.1 h.2.1
 have h3 : a ^^^ b ^^^ 4294967295 < 4294967296 := Nat.xor_lt_two_pow (n := 32) h2 (by decide)
 have h4 : (a ^^^ 4294967295) &&& b < 4294967296 := Nat.and_lt_two_pow (n := 32) _ h.2.1
 have h5 : (a ^^^ b ^^^ 4294967295) &&& ((a + 8589934592 - b - c) % 4294967296) < 4294967296 := Nat.and_lt_two_pow (n := 32) _ hd
 have hs : (if IntKind.u32.signed = true then (-1 : Int) else IntKind.u32.max) = IntKind.u32.max := by decide
 have e1 : ∀ {x : Nat}, x < 4294967296 → ibits .xor .u32 IntKind.u32.max (x : Int) = ((x ^^^ 4294967295 : Nat) : Int) := by
  intro x hx
  have : IntKind.u32.max = ((4294967295 : Nat) : Int) := by decide
  rw [this, bxor32 (by omega), Nat.xor_comm]
 refine Ctr.intro ⟨Tryz.f300, _, Tryz.call300, Tryz.func300, fold_body (by rfl) (by kernel_rfl), (by simp [Tryz.ntmps300]), (by simp), (by kernel_rfl), ?_⟩
 refine wks ?_
 refine wk3 @hw @hs @e1 ?_
 exact ⟨u32_eq (borrow_bit h), trivial⟩
theorem div_lt32 {a b c : Nat} (h : a < c ∧ b < 4294967296) : (a * 4294967296 + b) / c < 4294967296 := by
 rw [Nat.div_lt_iff_lt_mul (by omega)]
 have : (a + 1) * 4294967296 ≤ c * 4294967296 := Nat.mul_le_mul_right _ h.1
 omega
theorem u64_div {a b : Nat} : IntKind.u64.wrap (((a : Int)).tdiv (b : Int)) = ((a / b % 18446744073709551616 : Nat) : Int) := by
 rw [IntKind.wrap]; simp [IntKind.bits, IntKind.signed, Int.tdiv_eq_ediv_of_nonneg]
theorem nat_tmod {a b : Nat} : ((a : Int)).tmod (b : Int) = ((a % b : Nat) : Int) := by
 rw [Int.tmod_eq_emod_of_nonneg (by omega)]; simp
attribute [go_sem] nat_tmod
theorem c_Div32 (a b c : Nat) (h : a < c ∧ b < 4294967296 ∧ c < 4294967296) : CT 263 [.data (iv .u32 a), .data (iv .u32 b), .data (iv .u32 c)]
  {val := .tup [iv .u32 ((a * 4294967296 + b) / c : Nat), iv .u32 ((a * 4294967296 + b) % c : Nat)], args := [.data (iv .u32 a), .data (iv .u32 b), .data (iv .u32 c)] } := by
 have hq := div_lt32 (c := c) ⟨h.1, h.2.1⟩
 have hr : (a * 4294967296 + b) % c < c := Nat.mod_lt _ (by omega)
 have hq2 : (a * 4294967296 + b) / c % 18446744073709551616 = (a * 4294967296 + b) / c := Nat.mod_eq_of_lt (by omega)
 refine Ctr.intro ⟨Tryz.f263, _, Tryz.call263, Tryz.func263, fold_body (by rfl) (by kernel_rfl), (by simp [Tryz.ntmps263]), (by simp), (by kernel_rfl), ?_⟩
 refine wks ?_
 refine wk1 @u64_div ?_
 refine vcalm (by kernel_rfl) ?_
 exact ⟨⟨u32_eq (by omega), u32_eq (by omega)⟩, trivial⟩
end Go.Proofs.YteipiejlljnclaaGreatDoor
end
