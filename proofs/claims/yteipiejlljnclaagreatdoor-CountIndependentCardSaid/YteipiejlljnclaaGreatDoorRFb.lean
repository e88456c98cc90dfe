/- Sorting, part 2: heap sort. Conditions stand in each. -/
import Derived.Test.YteipiejlljnclaaGreatDoorRFa
set_option linter.unusedVariables false
set_option linter.unusedSimpArgs false
set_option maxRecDepth 10000
set_option maxHeartbeats 8000000
namespace Go.Proofs.YteipiejlljnclaaGreatDoor
open Go Go.AL Go.Sort
attribute [local irreducible] run opK opD callK
attribute [local simp] keep keepEnv keepRows keepAV keepPl keepBody keepElems keepElem keepCells lget inL normG mc_keep mc_keep0
attribute [local irreducible] ec pa swp
attribute [local simp] keep keepEnv keepRows keepAV keepPl keepBody keepElems keepElem keepCells lget inL normG mc_keep mc_keep0
variable {c : Nat} {r : Value} {cf : Tm → Tm → Int}
theorem c_siftDown (H : Cmp c r cf) (d : Array Tm) (lo hi first : Nat) (hb : first + hi ≤ d.size) (hs : d.size < 2305843009213693952) (hlo : lo < 2305843009213693952) : CT 301 [sdat d, .data (iv .i64 lo), .data (iv .i64 hi), .data (iv .i64 first), .data (cmpv c r)]
  {val := .tup [], args := [sdat (siftDown (ltc cf) hi first lo d), .data (iv .i64 lo), .data (iv .i64 hi), .data (iv .i64 first), .data (cmpv c r)] } := by
 have rc := H.rc
 simp only [go_sem] at rc
 refine Ctr.intro ⟨Tryz.f301, _, Tryz.call301, Tryz.func301, fold_body (by rfl) (by kernel_rfl), (by simp [Tryz.ntmps301]), (by simp), (by kernel_rfl), ?_⟩
 refine wks ?_
 refine wk0 ?_
 refine run_loop [0, 2, 3, 4, 10] [0] (α := {s : Nat × Array Tm // s.2.size = d.size ∧ s.1 ≤ max lo hi ∧ siftDown (ltc cf) hi first s.1 s.2 = siftDown (ltc cf) hi first lo d})
  (fun s => ⟨[(0, .hs ⟨0, 0⟩ 0 d.size), (2, iv .i64 hi), (3, iv .i64 first), (4, cmpv c r), (10, iv .i64 s.1.1)], [(0, ⟨0, true, false, .cells 11 (pa s.1.2)⟩)]⟩)
  (fun s => hi - s.1.1) ⟨(lo, d), rfl, by simp only; omega, rfl⟩ (by first | rfl | simp [tc, qc]) ?_
 rintro ⟨⟨i, x⟩, hx, hi0, hI⟩
 simp only at hx hi0 hI
 refine wk0 ?_
 have e : 2 * (i : Int) + 1 = ((2 * i + 1 : Nat) : Int) := by omega
 have e2 : ((first : Int) + ((2 * i + 1 : Nat) : Int) + 1).toNat = first + (2 * i + 1) + 1 := by omega
 have e3 : ((2 * i + 1 : Nat) : Int) + 1 = ((2 * i + 2 : Nat) : Int) := by omega
 refine condK.dec (fun h => ?_) (fun h => ?_)
 ·rw [siftDown, dif_pos (by omega)] at hI
  refine wk1 @hI ?_
  simp [memOut, lget, VC]
 ·rw [siftDown, dif_neg (by omega)] at hI
  refine wk2 @e @e2 ?_
  refine guardK.dec (fun h1 => ?_) (fun h1 => ?_)
  ·refine wk7 @H.s0 @H.s1 @H.s2 @H.oc @rc @e @e2 ?_
   refine callI (H.ctr _ _) ?_
   refine wk2 @e @e2 ?_
   refine vcalm (by kernel_rfl) ?_
   refine condK.dec (fun h2 => ?_) (fun h2 => ?_)
   ·rw [if_pos (by simp only [ltc, h2, decide_true, Bool.and_true, decide_eq_true_eq]; omega)] at hI
    refine wk1 @e3 ?_
    refine wk5 @H.s0 @H.s1 @H.s2 @H.oc @rc ?_
    refine callI (H.ctr _ _) ?_
    refine wk0 ?_
    refine vcalm (by kernel_rfl) ?_
    refine condN (fun h3 => ?_) (fun h3 => ?_)
    ·rw [if_pos (by simp [ltc, h3])] at hI
     refine wk1 @hI ?_
     simp [memOut, lget, VC]
    ·rw [if_neg (by simp [ltc, h3])] at hI
     refine wk0 ?_
     refine vcalm (by kernel_rfl) ?_
     refine wk0 ?_
     exact ⟨⟨(2 * i + 2, swp x (first + i) (first + (2 * i + 2))), by simp only [swp_size]; exact hx, by simp only; omega, by simp only; first | rw [← hI, dif_pos (by omega)] | rw [← hI]⟩, (by first | rfl | simp [tc, qc]), by simp only; omega⟩
   ·rw [if_neg (by simp [ltc, h2])] at hI
    refine wk0 ?_
    refine wk5 @H.s0 @H.s1 @H.s2 @H.oc @rc ?_
    refine callI (H.ctr _ _) ?_
    refine wk0 ?_
    refine vcalm (by kernel_rfl) ?_
    refine condN (fun h3 => ?_) (fun h3 => ?_)
    ·rw [if_pos (by simp [ltc, h3])] at hI
     refine wk1 @hI ?_
     simp [memOut, lget, VC]
    ·rw [if_neg (by simp [ltc, h3])] at hI
     refine wk0 ?_
     refine vcalm (by kernel_rfl) ?_
     refine wk0 ?_
     exact ⟨⟨(2 * i + 1, swp x (first + i) (first + (2 * i + 1))), by simp only [swp_size]; exact hx, by simp only; omega, by simp only; first | rw [← hI, dif_pos (by omega)] | rw [← hI]⟩, (by first | rfl | simp [tc, qc]), by simp only; omega⟩
  ·rw [if_neg (by simp; omega)] at hI
   refine wk0 ?_
   refine vcalm (by kernel_rfl) ?_
   refine wk0 ?_
   refine wk5 @H.s0 @H.s1 @H.s2 @H.oc @rc ?_
   refine callI (H.ctr _ _) ?_
   refine wk0 ?_
   refine vcalm (by kernel_rfl) ?_
   refine condN (fun h3 => ?_) (fun h3 => ?_)
   ·rw [if_pos (by simp [ltc, h3])] at hI
    refine wk1 @hI ?_
    simp [memOut, lget, VC]
   ·rw [if_neg (by simp [ltc, h3])] at hI
    refine wk0 ?_
    refine vcalm (by kernel_rfl) ?_
    refine wk0 ?_
    exact ⟨⟨(2 * i + 1, swp x (first + i) (first + (2 * i + 1))), by simp only [swp_size]; exact hx, by simp only; omega, by simp only; first | rw [← hI, dif_pos (by omega)] | rw [← hI]⟩, (by first | rfl | simp [tc, qc]), by simp only; omega⟩
theorem siftDown_size' {lt : Tm → Tm → Bool} {hi first : Nat} : ∀ (n root : Nat) (x : Array Tm), hi - root ≤ n → (siftDown lt hi first root x).size = x.size := by
 intro n
 induction n with
 | zero => intro root x h; rw [siftDown, dif_pos (by omega)]
 | succ n ih =>
  intro root x h
  rw [siftDown]
  split
  ·rfl
  ·split
   ·split
    ·rfl
    ·split
     ·rw [ih _ _ (by omega), swp_size]
     ·rfl
   ·split
    ·rfl
    ·rw [ih _ _ (by omega), swp_size]
theorem siftDown_size {lt : Tm → Tm → Bool} {hi first root : Nat} {x : Array Tm} : (siftDown lt hi first root x).size = x.size := siftDown_size' _ root x (Nat.le_refl _)
attribute [local go_sem] siftDown_size
theorem c_heapSort (H : Cmp c r cf) (d : Array Tm) (a b : Nat) (hab : a ≤ b) (hb : b ≤ d.size) (hs : d.size < 1152921504606846976) : CT 269 (sargs d a b c r)
  {val := .tup [], args := sargs (heapSort (ltc cf) d a b) a b c r } := by
 have f1 : ((b : Int) - (a : Int)) = ((b - a : Nat) : Int) := by omega
 refine Ctr.intro ⟨Tryz.f269, _, Tryz.call269, Tryz.func269, fold_body (by rfl) (by kernel_rfl), (by simp [Tryz.ntmps269]), (by simp), (by kernel_rfl), ?_⟩
 refine wks ?_
 have f2 : ((b - a : Nat) - 1 : Int).tdiv 2 = (((b - a - 1) / 2 : Nat) : Int) := by
  by_cases h : b = a
  ·rw [h, Nat.sub_self]; rfl
  ·rw [Int.tdiv_eq_ediv_of_nonneg (by omega)]; omega
 refine wk2 @f1 @f2 ?_
 obtain ⟨K, hK⟩ : ∃ K, K = b - a := ⟨_, rfl⟩
 rw [← hK]
 have hKs : a + K ≤ d.size := by omega
 clear f1 f2
 have hheap : heapPop (ltc cf) a K (heapBuild (ltc cf) K a ((K - 1) / 2 + 1) d) = heapSort (ltc cf) d a b := by rw [heapSort, ← hK]
 refine run_loop [0, 3, 8, 9, 10, 11] [0] (α := {s : Nat × Array Tm // s.2.size = d.size ∧ s.1 ≤ K + 1 ∧ heapPop (ltc cf) a K (heapBuild (ltc cf) K a s.1 s.2) = heapSort (ltc cf) d a b})
  (fun s => ⟨[(0, .hs ⟨0, 0⟩ 0 d.size), (3, cmpv c r), (8, iv .i64 a), (9, iv .i64 0), (10, iv .i64 K), (11, iv .i64 ((s.1.1 : Int) - 1))], [(0, ⟨0, true, false, .cells 11 (pa s.1.2)⟩)]⟩)
  (fun s => s.1.1) ⟨((K - 1) / 2 + 1, d), rfl, by simp only; omega, hheap⟩ (by simp only [cast_pred]; exact (by first | rfl | simp [tc, qc])) ?_
 rintro ⟨⟨k, x⟩, hx, hk, hI⟩
 simp only at hx hk hI
 cases k with
 | succ k =>
  rw [heapBuild] at hI
  refine wk0 ?_
  refine callI (c_siftDown H x k K a (by omega) (by omega) (by omega)) ?_
  refine wk0 ?_
  exact ⟨⟨(k, siftDown (ltc cf) K a k x), by simp only [siftDown_size]; exact hx, by simp only; omega, hI⟩, (by first | rfl | simp [tc, qc]), by simp only; omega⟩
 | zero =>
  rw [heapBuild] at hI
  refine wk0 ?_
  refine run_loop [0, 3, 8, 9, 12] [0] (α := {s : Nat × Array Tm // s.2.size = d.size ∧ s.1 ≤ K ∧ heapPop (ltc cf) a s.1 s.2 = heapSort (ltc cf) d a b})
   (fun s => ⟨[(0, .hs ⟨0, 0⟩ 0 d.size), (3, cmpv c r), (8, iv .i64 a), (9, iv .i64 0), (12, iv .i64 ((s.1.1 : Int) - 1))], [(0, ⟨0, true, false, .cells 11 (pa s.1.2)⟩)]⟩)
   (fun s => s.1.1) ⟨(K, x), hx, Nat.le_refl _, hI⟩ (by first | rfl | simp [tc, qc]) ?_
  rintro ⟨⟨k, y⟩, hy, hk', hJ⟩
  simp only at hy hk' hJ
  cases k with
  | succ k =>
   rw [heapPop] at hJ
   refine wk0 ?_
   refine vcalm (by kernel_rfl) ?_
   refine wk0 ?_
   refine callI (c_siftDown H (swp y a (a + k)) 0 k a (by rw [swp_size]; omega) (by rw [swp_size]; omega) (by omega)) ?_
   refine wk0 ?_
   exact ⟨⟨(k, siftDown (ltc cf) k a 0 (swp y a (a + k))), by simp only [siftDown_size, swp_size]; exact hy, by simp only; omega, hJ⟩, (by first | rfl | simp [tc, qc]), by simp only; omega⟩
  | zero =>
   rw [heapPop] at hJ
   refine wk1 @hJ ?_
   simp [memOut, lget, VC]
end Go.Proofs.YteipiejlljnclaaGreatDoor
