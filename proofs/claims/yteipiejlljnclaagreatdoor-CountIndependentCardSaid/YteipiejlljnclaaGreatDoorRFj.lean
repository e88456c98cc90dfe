/- Sorting, part 9: the comparisons of terms, SortFunc. Conditions stand in each. -/
import Derived.Test.YteipiejlljnclaaGreatDoorRFi
import Derived.Test.YteipiejlljnclaaGreatDoorRGa
set_option linter.unusedVariables false
set_option linter.unusedSimpArgs false
set_option maxRecDepth 10000
set_option maxHeartbeats 8000000
namespace Go.Proofs.YteipiejlljnclaaGreatDoor
open Go Go.AL Go.Sort
attribute [local irreducible] run opK opD callK
attribute [local simp] keep keepEnv keepRows keepAV keepPl keepBody keepElems keepElem keepCells lget inL normG mc_keep mc_keep0
def cmpZ (x y : Int) : Int := if x < y then -1 else if x > y then 1 else 0
def cmpL : List Int → List Int → Int
 | [], [] => 0
 | [], _ :: _ => -1
 | _ :: _, [] => 1
 | x :: a, y :: b => if cmpZ x y ≠ 0 then cmpZ x y else cmpL a b
theorem c_isNaN (x : Int) : CT 251 [.data (iv .i64 x)] { val := .sc (.bool false), args := [.data (iv .i64 x)] } := by
 refine Ctr.intro ⟨Tryz.f251, _, Tryz.call251, Tryz.func251, fold_body (by rfl) (by kernel_rfl), (by simp [Tryz.ntmps251]), (by simp), (by kernel_rfl), ?_⟩
 refine wks ?_
 refine wk0 ?_
 simp [VC]
theorem c_cmpZ (x y : Int) : CT 202 [.data (iv .i64 x), .data (iv .i64 y)] { val := iv .i64 (cmpZ x y), args := [.data (iv .i64 x), .data (iv .i64 y)] } := by
 refine Ctr.intro ⟨Tryz.f202, _, Tryz.call202, Tryz.func202, fold_body (by rfl) (by kernel_rfl), (by simp [Tryz.ntmps202]), (by simp), (by kernel_rfl), ?_⟩
 refine wks ?_
 refine wk0 ?_
 refine callI (c_isNaN x) ?_
 refine wk0 ?_
 refine callI (c_isNaN y) ?_
 refine wk0 ?_
 refine condK.dec (fun h => ?_) (fun h => ?_)
 ·refine wk1 @cmpZ.eq_1 ?_
  simp [VC, h]
 ·refine wk0 ?_
  refine condK.dec (fun h2 => ?_) (fun h2 => ?_)
  ·refine wk1 @cmpZ.eq_1 ?_
   simp [VC, h, h2]
  ·refine wk1 @cmpZ.eq_1 ?_
   simp [VC, h, h2]
theorem drop_gi {l : List Int} {i : Nat} (h : i < l.length) : l.drop i = gi l i :: l.drop (i + 1) := by
 rw [List.drop_eq_getElem_cons h]; simp [gi, List.getD, h]
theorem cmpZ_iv (x y : Int) : -1 ≤ cmpZ x y ∧ cmpZ x y ≤ 1 := by unfold cmpZ; split <;> (try split) <;> omega
theorem c_CompareI (a b : List Int) (ha : a.length < 4611686018427387904) : CT 138 [idat a, idat b] { val := iv .i64 (cmpL a b), args := [idat a, idat b] } := by
 refine Ctr.intro ⟨Tryz.f138, _, Tryz.call138, Tryz.func138, fold_body (by rfl) (by kernel_rfl), (by simp [Tryz.ntmps138]), (by simp), (by kernel_rfl), ?_⟩
 refine wks ?_
 refine wk0 ?_
 refine run_loop [0, 1, 9, 10, 11] [] (α := {i : Nat // i ≤ a.length ∧ i ≤ b.length ∧ cmpL (a.drop i) (b.drop i) = cmpL a b}) (fun i => ⟨[(0, .sl 1 (ints a)), (1, .sl 1 (ints b)), (9, .sl 1 (ints a)), (10, iv .i64 a.length), (11, iv .i64 i.1)], []⟩)
  (fun i => a.length - i.1) ⟨0, Nat.zero_le _, Nat.zero_le _, rfl⟩ (by first | rfl | simp [tc, qc]) ?_
 rintro ⟨i, hi, hib, hq⟩
 refine wk0 ?_
 refine condK.dec (fun h => ?_) (fun h => ?_)
 ·rw [drop_gi (l := a) (by omega)] at hq
  refine wk0 ?_
  refine condK.dec (fun h2 => ?_) (fun h2 => ?_)
  ·rw [List.drop_eq_nil_of_le (show b.length ≤ i by omega), cmpL] at hq
   refine wk1 (hq).symm ?_
   simp [VC]
  ·rw [drop_gi (l := b) (by omega), cmpL] at hq
   refine wk0 ?_
   refine callI (c_cmpZ (gi a i) (gi b i)) ?_
   refine wk0 ?_
   refine condK.dec (fun h3 => ?_) (fun h3 => ?_)
   ·rw [if_pos h3] at hq
    refine wk1 (hq).symm ?_
    simp [VC]
   ·rw [if_neg h3] at hq
    refine wk0 ?_
    exact ⟨⟨i + 1, by omega, by omega, hq⟩, (by first | rfl | simp [tc, qc]), by simp only; omega⟩
 ·rw [List.drop_eq_nil_of_le (show a.length ≤ i by omega)] at hq
  refine wk0 ?_
  refine condK.dec (fun h2 => ?_) (fun h2 => ?_)
  ·rw [drop_gi (l := b) (by omega), cmpL] at hq
   refine wk1 (hq).symm ?_
   simp [VC]
  ·rw [List.drop_eq_nil_of_le (show b.length ≤ i by omega), cmpL] at hq
   refine wk1 (hq).symm ?_
   simp [VC]
theorem cmpL_pos : ∀ {a b : List Int}, a.length = b.length → (decide (0 - cmpL a b < 0)) = lgt a b
 | [], [], _ => rfl
 | x :: a, y :: b, h => by
  have ih := cmpL_pos (a := a) (b := b) (by simpa using h)
  rw [cmpL, lgt]
  unfold cmpZ
  rcases Int.lt_trichotomy x y with hxy | hxy | hxy
  ·have h1 : ¬ x = y := by omega
   have h2 : ¬ y < x := by omega
   simp [hxy, h1, h2]
  ·subst hxy
   simpa using ih
  ·have h1 : ¬ x = y := by omega
   have h2 : ¬ x < y := by omega
   simp [hxy, h1, h2]
theorem cmpL_bd : ∀ (a b : List Int), -1 ≤ cmpL a b ∧ cmpL a b ≤ 1
 | [], [] => by simp [cmpL]
 | [], _ :: _ => by simp [cmpL]
 | _ :: _, [] => by simp [cmpL]
 | x :: a, y :: b => by
  rw [cmpL]
  split
  ·exact cmpZ_iv x y
  ·exact cmpL_bd a b
def cfm (a b : Tm) : Int := 0 - cmpL a.1.l b.1.l
theorem ltc_cfm (a b : Tm) : ltc cfm a b = mgt a.1 b.1 := cmpL_pos (by rw [a.1.h, b.1.h])
theorem swo_cfm : SWO (ltc cfm) where
 irrefl x := by rw [ltc_cfm]; exact mgt_irrefl _
 trans x y z h1 h2 := by rw [ltc_cfm] at *; exact mgt_trans h1 h2
 ntrans x y z h1 h2 := by
  rw [ltc_cfm] at *
  cases h : mgt x.1 z.1 with
  | false => rfl
  | true =>
   cases h3 : mgt y.1 x.1 with
   | true => have := mgt_trans h3 h; rw [this] at h2; cases h2
   | false => have e := mgt_tri h1 h3; rw [← e, h] at h2; cases h2
theorem c_cmpMono (x y : Tm) : CT 165 [.data (.agg [.sc (.bool true)]), .data (.agg (ec x)), .data (.agg (ec y))] { val := iv .i64 (cfm x y), args := [.data (.agg [.sc (.bool true)]), .data (.agg (ec x)), .data (.agg (ec y))] } := by
 have hc := c_CompareI x.1.l y.1.l (by rw [x.1.h]; decide)
 have hb := cmpL_bd x.1.l y.1.l
 unfold ec qc
 refine Ctr.intro ⟨Tryz.f165, _, Tryz.call165, Tryz.func165, fold_body (by rfl) (by kernel_rfl), (by simp [Tryz.ntmps165]), (by simp), (by kernel_rfl), ?_⟩
 refine wks ?_
 refine wk0 ?_
 refine callI (hc) ?_
 refine wk0 ?_
 refine vcalm (by kernel_rfl) ?_
 refine wk0 ?_
 simp [VC, cfm]
theorem c_cmpOrder (x y : Tm) : CT 169 [.data (.agg [.sc (.int .i64 8)]), .data (.agg (ec x)), .data (.agg (ec y))] { val := iv .i64 (cfm x y), args := [.data (.agg [.sc (.int .i64 8)]), .data (.agg (ec x)), .data (.agg (ec y))] } := by
 have hc := c_CompareI x.1.l y.1.l (by rw [x.1.h]; decide)
 have hb := cmpL_bd x.1.l y.1.l
 unfold ec qc
 have e8 : Int.toNat 8 = 8 := rfl
 refine Ctr.intro ⟨Tryz.f169, _, Tryz.call169, Tryz.func169, fold_body (by rfl) (by kernel_rfl), (by simp [Tryz.ntmps169]), (by simp), (by kernel_rfl), ?_⟩
 refine wks ?_
 refine wk1 @e8 ?_
 refine callI (hc) ?_
 refine wk0 ?_
 refine vcalm (by kernel_rfl) ?_
 refine wk0 ?_
 simp [VC, cfm]
theorem cmp165 : Cmp 165 (.bool true) cfm := ⟨rfl, rfl, rfl, swo_cfm, rfl, rfl, c_cmpMono⟩
theorem cmp169 : Cmp 169 (.int .i64 8) cfm := ⟨rfl, rfl, rfl, swo_cfm, rfl, rfl, c_cmpOrder⟩
theorem L_perm {p q : List Tm} (h : p.Perm q) (F : Mo → Rat) : L p F = L q F := by
 induction h with
 | nil => rfl
 | cons x _ ih => rw [L_cons, L_cons, ih]
 | swap x y l => simp only [L_cons]; rw [← Rat.add_assoc, ← Rat.add_assoc, Rat.add_comm (y.2 * F y.1)]
 | trans _ _ h1 h2 => rw [h1, h2]
theorem sorted_nf {p : List Tm} {d : Array Tm} (hn : (p.map (·.1)).Nodup) (hz : ∀ t ∈ p, t.2 ≠ 0) (hp : PermIn 0 p.length p.toArray d) (hs : SortedIn (ltc cfm) 0 p.length d) : d.toList = nf p := by
 obtain ⟨h1, _, h3⟩ := hp
 have e1 : (d.extract 0 p.length).toList = d.toList := by
  have hsz : d.size = p.length := by simpa using h1
  rw [← hsz]; simp
 have e2 : (p.toArray.extract 0 p.length).toList = p := by simp
 rw [e1, e2] at h3
 have hsz : d.size = p.length := by simpa using h1
 have hnd : (d.toList.map (·.1)).Nodup := (h3.map (·.1)).nodup_iff.mpr hn
 have hc : Cn d.toList := by
  refine ⟨List.pairwise_iff_getElem.mpr fun i j hi hj hij => ?_, fun t ht => hz t (h3.mem_iff.mp ht)⟩
  have hi' : i < d.size := by simpa using hi
  have hj' : j < d.size := by simpa using hj
  have hs1 := hs i j (Nat.zero_le _) hij (by omega)
  rw [ltc_cfm] at hs1
  simp only [getElem!_pos d i hi', getElem!_pos d j hj'] at hs1
  simp only [Array.getElem_toList]
  cases hm : mgt d[i].1 d[j].1 with
  | true => rfl
  | false =>
   have e := mgt_tri hm hs1
   have := List.pairwise_iff_getElem.mp hnd i j (by simpa using hi) (by simpa using hj) hij
   simp at this
   exact absurd e this
 exact hc.uniq (nf_Cn p) (fun m => by
  have h := L_perm h3
  have h2 := nf_L p
  have := hc.ext (nf_Cn p) (fun F => by rw [h, h2])
  rw [this])
theorem bitsLen_lt {n : Nat} (h : n < 1152921504606846976) : bitsLen n < 1000 := by
 have := (bitsLen_le_iff n 60).2 (by omega)
 omega
theorem c_SortA {c : Nat} {r : Value} {cf : Tm → Tm → Int} (H : Cmp c r cf) (d : Array Tm) (hs : d.size < 1152921504606846976) : CT 164 [sdat d, .data (cmpv c r)]
  {val := .tup [], args := [sdat (pdq (ltc cf) d 0 d.size (bitsLen d.size) true true), .data (cmpv c r)] } := by
 have hc := c_pdq H (d.size - 0) d 0 d.size (bitsLen d.size) (Nat.le_refl _) (Nat.zero_le _) (Nat.le_refl _) hs (bitsLen_lt hs)
 have hl := c_Len d.size (by omega)
 refine Ctr.intro ⟨Tryz.f164, _, Tryz.call164, Tryz.func164, fold_body (by rfl) (by kernel_rfl), (by simp [Tryz.ntmps164]), (by simp), (by kernel_rfl), ?_⟩
 refine wks ?_
 refine wk0 ?_
 refine callI (hl) ?_
 refine wk0 ?_
 refine callI (hc) ?_
 refine wk0 ?_
 simp [memOut, lget, VC]
theorem c_SortP {c : Nat} {r : Value} (H : Cmp c r cfm) (p : List Tm) (hs : p.length < 1152921504606846976) (hn : (p.map (·.1)).Nodup) (hz : ∀ t ∈ p, t.2 ≠ 0) : CT 164 [.slc (.cells 11 (ps p)), .data (cmpv c r)]
  {val := .tup [], args := [.slc (.cells 11 (ps (nf p))), .data (cmpv c r)] } := by
 have h := c_SortA H p.toArray (by simpa using hs)
 have hp := pdq_sorts (ltc cfm) swo_cfm p.toArray 0 p.length (bitsLen p.length) true true (Nat.zero_le _) (by simp) (Or.inl rfl)
 have e := sorted_nf hn hz hp.1 hp.2
 have e2 : pa (pdq (ltc cfm) p.toArray 0 p.toArray.size (bitsLen p.toArray.size) true true) = ps (nf p) := by
  rw [← e]
  rfl
 simp only [sdat, e2] at h
 exact h
end Go.Proofs.YteipiejlljnclaaGreatDoor
