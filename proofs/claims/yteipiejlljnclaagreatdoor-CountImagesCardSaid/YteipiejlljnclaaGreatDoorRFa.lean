/- Sorting, part 1: how an array of terms stands in memory; insertion sort, reversal. Conditions stand in each. -/
import Derived.Test.YteipiejlljnclaaGreatDoorRCw
import Derived.Sort.AssemblyPlain
set_option linter.unusedVariables false
set_option linter.unusedSimpArgs false
set_option maxRecDepth 10000
set_option maxHeartbeats 4000000
namespace Go.Proofs.YteipiejlljnclaaGreatDoor
open Go Go.AL Go.Sort
attribute [local irreducible] run opK opD callK
attribute [local simp] keep keepEnv keepRows keepAV keepPl keepBody keepElems keepElem keepCells lget inL normG mc_keep mc_keep0
instance : Inhabited Mo := ⟨Mo.zero⟩
def ec (t : Tm) : List AV := mc t.1 ++ qc t.2
theorem ec_len (t : Tm) : (ec t).length = 11 := by simp [ec, mc_len, qc]
theorem ec_give (t : Tm) : giveUpL (ec t) = .ret (ec t, []) := by
 unfold ec; rw [mc_give]; rfl
theorem ec_canon (s : List (Nat × Nat)) (j : Nat) (t : Tm) : canonCells s j (ec t) = ec t := by
 unfold ec; rw [mc_canon]; rfl
def pa (d : Array Tm) : List AV := d.toList.map fun t => .agg (ec t)
theorem pa_len (d : Array Tm) : (pa d).length = d.size := by simp [pa]
theorem pa_at {d : Array Tm} {i : Nat} (h : i < d.size) : at_ (pa d) i = .agg (ec d[i]!) := by
 simp [at_, pa, List.getD, h]
theorem pa_set (d : Array Tm) (i : Nat) (t : Tm) : (pa d).set i (.agg (ec t)) = pa (d.setIfInBounds i t) := by
 simp [pa, List.map_set]
theorem pa_take {d : Array Tm} {n : Nat} (h : d.size ≤ n) : (pa d).take n = pa d := List.take_of_length_le (by rw [pa_len]; exact h)
theorem swp_size (d : Array Tm) (i j : Nat) : (swp d i j).size = d.size := by simp [swp]
theorem pa_takes {d : Array Tm} {n i j : Nat} (h : d.size ≤ n) : (pa (swp d i j)).take n = pa (swp d i j) := pa_take (by rw [swp_size]; exact h)
theorem fold_swp (d : Array Tm) (i j : Nat) : (d.setIfInBounds i d[j]!).setIfInBounds j d[i]! = swp d i j := rfl
attribute [local irreducible] ec pa swp
attribute [local simp] keep keepEnv keepRows keepAV keepPl keepBody keepElems keepElem keepCells lget inL normG mc_keep mc_keep0
attribute [go_sem] ec_len ec_give ec_canon pa_len pa_at pa_set pa_take pa_takes swp_size fold_swp Array.size_setIfInBounds
@[go_sem] abbrev sdat (d : Array Tm) : PA := .slc (.cells 11 (pa d))
def ltc (cf : Tm → Tm → Int) (x y : Tm) : Bool := decide (cf x y < 0)
structure Cmp (c : Nat) (r : Value) (cf : Tm → Tm → Int) : Prop where
 s0 : SM c 0 = false
 s1 : SM c 1 = false
 s2 : SM c 2 = false
 swo : SWO (ltc cf)
 oc : r.oneCell' = true
 rc : ofCell r = .sc r
 ctr : ∀ x y, CT c [.data (.agg [.sc r]), .data (.agg (ec x)), .data (.agg (ec y))] { val := iv .i64 (cf x y), args := [.data (.agg [.sc r]), .data (.agg (ec x)), .data (.agg (ec y))] }
@[go_sem] abbrev cmpv (c : Nat) (r : Value) : AV := .sc (.func (.func c) #[.agg #[r]] #[])
variable {c : Nat} {r : Value} {cf : Tm → Tm → Int}
@[go_sem] abbrev sargs (d : Array Tm) (a b : Nat) (c : Nat) (r : Value) : List PA := [sdat d, .data (iv .i64 a), .data (iv .i64 b), .data (cmpv c r)]
theorem c_reverse (d : Array Tm) (a b : Nat) (hb : b ≤ d.size) (hs : d.size < 4611686018427387904) : CT 272 (sargs d a b c r)
  {val := .tup [], args := sargs (reverseRange d a b) a b c r } := by
 refine Ctr.intro ⟨Tryz.f272, _, Tryz.call272, Tryz.func272, fold_body (by rfl) (by kernel_rfl), (by simp [Tryz.ntmps272]), (by simp), (by kernel_rfl), ?_⟩
 refine wks ?_
 refine wk0 ?_
 refine run_loop [0, 8, 9] [0] (α := {s : Nat × Nat × Array Tm // s.2.2.size = d.size ∧ (s.1 < s.2.1 → s.2.1 < d.size) ∧ s.2.1 ≤ d.size ∧ (b = 0 → s.1 = a ∧ s.2.1 = 0) ∧ reverseLoop s.1 s.2.1 s.2.2 = reverseRange d a b})
  (fun s => ⟨[(0, .hs ⟨0, 0⟩ 0 d.size), (8, iv .i64 s.1.1), (9, iv .i64 (if b = 0 then -1 else s.1.2.1))], [(0, ⟨0, true, false, .cells 11 (pa s.1.2.2)⟩)]⟩)
  (fun s => s.1.2.1 - s.1.1) ⟨(a, b - 1, d), rfl, by simp only; omega, by simp only; omega, fun h => ⟨rfl, by simp only; omega⟩, rfl⟩ (by
   by_cases h : b = 0
   ·subst h; exact (by first | rfl | simp [tc, qc])
   ·have e : ((b - 1 : Nat) : Int) = (b : Int) - 1 := by omega
    simp only [if_neg h, e]; exact (by first | rfl | simp [tc, qc])) ?_
 rintro ⟨⟨i, j, x⟩, hx, hj, hj2, hb0, hI⟩
 simp only at hx hj hj2 hb0 hI
 by_cases h0 : b = 0
 ·obtain ⟨rfl, rfl⟩ := hb0 h0
  subst h0
  rw [reverseLoop, if_neg (by omega)] at hI
  refine wk1 @hI ?_
  simp [memOut, lget, VC]
 ·have hb0' : ¬ b = 0 := h0
  simp only [if_neg h0]
  clear hb0
  refine wk0 ?_
  refine condK.dec (fun h => ?_) (fun h => ?_)
  ·have hij : i < j := by omega
   have hjd := hj hij
   rw [reverseLoop, if_pos hij] at hI
   refine wk0 ?_
   refine vcalm (by kernel_rfl) ?_
   refine wk0 ?_
   refine ⟨⟨(i + 1, j - 1, swp x i j), by simpa [swp] using hx, fun _ => by simp only; omega, by simp only; omega, fun h => absurd h h0, hI⟩, ?_, by simp only; omega⟩
   have e : ((j - 1 : Nat) : Int) = (j : Int) - 1 := by omega
   simp only [if_neg h0, e]; exact (by first | rfl | simp [tc, qc])
  ·rw [reverseLoop, if_neg (by omega)] at hI
   refine wk1 @hI ?_
   simp [memOut, lget, VC]
theorem condN {p : Prop} [Decidable p] {X Y : Hold} (h : ¬ p → X.p) (h' : p → Y.p) : condK (.sc (.bool (!decide p))) (X := X) (Y := Y) := ⟨fun e => h (by simpa using e), fun e => h' (by simpa using e)⟩
theorem c_insertion (H : Cmp c r cf) (d : Array Tm) (a b : Nat) (hb : b ≤ d.size) (hs : d.size < 4611686018427387904) (ha : a < 4611686018427387904) : CT 268 (sargs d a b c r)
  {val := .tup [], args := sargs (insertionSort (ltc cf) d a b) a b c r } := by
 have rc := H.rc
 simp only [go_sem] at rc
 refine Ctr.intro ⟨Tryz.f268, _, Tryz.call268, Tryz.func268, fold_body (by rfl) (by kernel_rfl), (by simp [Tryz.ntmps268]), (by simp), (by kernel_rfl), ?_⟩
 refine wks ?_
 refine wk0 ?_
 refine run_loop [0, 1, 2, 3, 8] [0] (α := {s : Nat × Array Tm // s.2.size = d.size ∧ s.1 ≤ max (a + 1) b ∧ insOuter (ltc cf) a b s.1 s.2 = insertionSort (ltc cf) d a b})
  (fun s => ⟨[(0, .hs ⟨0, 0⟩ 0 d.size), (1, iv .i64 a), (2, iv .i64 b), (3, cmpv c r), (8, iv .i64 s.1.1)], [(0, ⟨0, true, false, .cells 11 (pa s.1.2)⟩)]⟩)
  (fun s => b - s.1.1) ⟨(a + 1, d), rfl, by simp only; omega, rfl⟩ (by first | rfl | simp [tc, qc]) ?_
 rintro ⟨⟨i, x⟩, hx, hi, hI⟩
 simp only at hx hi hI
 refine wk0 ?_
 refine condK.dec (fun h => ?_) (fun h => ?_)
 ·rw [insOuter, if_pos (by omega)] at hI
  refine wk0 ?_
  refine run_loop [0, 1, 2, 3, 8, 9] [0] (α := {s : Nat × Array Tm // s.2.size = d.size ∧ s.1 ≤ i ∧ insInner (ltc cf) a s.1 s.2 = insInner (ltc cf) a i x})
   (fun s => ⟨[(0, .hs ⟨0, 0⟩ 0 d.size), (1, iv .i64 a), (2, iv .i64 b), (3, cmpv c r), (8, iv .i64 i), (9, iv .i64 s.1.1)], [(0, ⟨0, true, false, .cells 11 (pa s.1.2)⟩)]⟩)
   (fun s => s.1.1) ⟨(i, x), hx, Nat.le_refl _, rfl⟩ (by first | rfl | simp [tc, qc]) ?_
  rintro ⟨⟨j, y⟩, hy, hj, hJ⟩
  simp only at hy hj hJ
  refine wk0 ?_
  refine guardK.dec (fun h1 => ?_) (fun h1 => ?_)
  ·obtain ⟨j, rfl⟩ : ∃ j', j = j' + 1 := ⟨j - 1, by omega⟩
   refine wk5 @H.s0 @H.s1 @H.s2 @H.oc @rc ?_
   refine callI (H.ctr _ _) ?_
   refine wk0 ?_
   refine vcalm (by kernel_rfl) ?_
   refine condK.dec (fun h2 => ?_) (fun h2 => ?_)
   ·refine wk0 ?_
    refine vcalm (by kernel_rfl) ?_
    refine wk0 ?_
    exact ⟨⟨(j, swp y (j + 1) j), by simp only [swp_size]; exact hy, by simp only; omega, by rw [← hJ, insInner, if_pos (by simp [ltc, h2]; omega)]⟩, (by first | rfl | simp [tc, qc]), by simp only; omega⟩
   ·refine wk0 ?_
    have e : y = insInner (ltc cf) a i x := by rw [← hJ, insInner, if_neg (by simp [ltc, h2])]
    exact ⟨⟨(i + 1, y), hy, by simp only; omega, by simp only; rw [e]; exact hI⟩, (by first | rfl | simp [tc, qc]), by simp only; omega⟩
  ·refine wk0 ?_
   refine vcalm (by kernel_rfl) ?_
   refine wk0 ?_
   have e : y = insInner (ltc cf) a i x := by
    rw [← hJ]
    cases j with
    | zero => rw [insInner]
    | succ j => rw [insInner, if_neg (by simp; omega)]
   exact ⟨⟨(i + 1, y), hy, by simp only; omega, by simp only; rw [e]; exact hI⟩, (by first | rfl | simp [tc, qc]), by simp only; omega⟩
 ·rw [insOuter, if_neg (by omega)] at hI
  refine wk1 @hI ?_
  simp [memOut, lget, VC]
end Go.Proofs.YteipiejlljnclaaGreatDoor
