/- Sorting, part 8: the pattern-defeating quicksort. Conditions stand in each. -/
import Derived.Test.YteipiejlljnclaaGreatDoorRFb
import Derived.Test.YteipiejlljnclaaGreatDoorRFc
import Derived.Test.YteipiejlljnclaaGreatDoorRFd
import Derived.Test.YteipiejlljnclaaGreatDoorRFe
import Derived.Test.YteipiejlljnclaaGreatDoorRFg
set_option linter.unusedVariables false
set_option linter.unusedSimpArgs false
set_option maxRecDepth 10000
set_option maxHeartbeats 64000000
namespace Go.Proofs.YteipiejlljnclaaGreatDoor
open Go Go.AL Go.Sort
theorem run_flat {sm : FuncId → Nat → Bool} {C : FuncId → List PA → CRes → Prop} {P : Program} {u v : Code} {k : List It} {Q : Post} : ∀ (pre : List Code) {e : Ex} {σ : St},
  run sm C P (pre.map It.code ++ It.code (.seq u v) :: k) e σ Q = run sm C P (pre.map It.code ++ It.code u :: It.code v :: k) e σ Q
 | [], .normal, σ => run_seq
 | [], .ret, σ => rfl
 | [], .exit i, σ => rfl
 | c :: pre, .normal, σ => by
  have h : (fun e σ => run sm C P (pre.map It.code ++ It.code (.seq u v) :: k) e σ Q) = fun e σ => run sm C P (pre.map It.code ++ It.code u :: It.code v :: k) e σ Q := by
   funext e σ; exact run_flat pre
  show awp sm C P c σ (fun e σ => run sm C P (pre.map It.code ++ It.code (.seq u v) :: k) e σ Q) = awp sm C P c σ (fun e σ => run sm C P (pre.map It.code ++ It.code u :: It.code v :: k) e σ Q)
  rw [h]
 | c :: pre, .ret, σ => run_flat pre (e := .ret)
 | c :: pre, .exit i, σ => run_flat pre (e := .exit i)
theorem run_cutp {sm : FuncId → Nat → Bool} {C : FuncId → List PA → CRes → Prop} {P : Program} {k : List It} {Q : Post} (T : St → Prop) (hT : ∀ σ, T σ → run sm C P k .normal σ Q) : ∀ (pre : List Code) {e : Ex} {σ : St},
  run sm C P (pre.map It.code ++ It.loop T :: k) e σ Q → run sm C P (pre.map It.code ++ k) e σ Q
 | [], .normal, σ => hT σ
 | [], .ret, σ => id
 | [], .exit i, σ => id
 | c :: pre, .normal, σ => fun h => awp_mono (fun _ _ _ h => h) c (fun e σ h => run_cutp T hT pre h) h
 | c :: pre, .ret, σ => run_cutp T hT pre (e := .ret)
 | c :: pre, .exit i, σ => run_cutp T hT pre (e := .exit i)
attribute [local irreducible] run opK opD callK
attribute [local simp] keep keepEnv keepRows keepAV keepPl keepBody keepElems keepElem keepCells lget inL normG mc_keep mc_keep0
attribute [local irreducible] ec pa swp
attribute [local simp] keep keepEnv keepRows keepAV keepPl keepBody keepElems keepElem keepCells lget inL normG mc_keep mc_keep0
variable {c : Nat} {r : Value} {cf : Tm → Tm → Int}
@[go_sem] abbrev qargs (d : Array Tm) (a b L : Nat) (c : Nat) (r : Value) : List PA := [sdat d, .data (iv .i64 a), .data (iv .i64 b), .data (iv .i64 L), .data (cmpv c r)]
def TSp (cf : Tm → Tm → Int) (c : Nat) (r : Value) (d R : Array Tm) (a b L : Nat) (σ : St) : Prop := ∃ (y : Array Tm) (p L2 : Nat) (w1 w2 : Bool), (y.size = d.size ∧ (a ≤ p ∧ p < b) ∧ L2 ≤ L ∧ 12 < b - a ∧ pdqT (ltc cf) y a b p L2 w1 w2 = R) ∧ lget σ.env 0 = some (.hs ⟨0, 0⟩ 0 d.size) ∧ lget σ.env 1 = some (iv .i64 a) ∧ lget σ.env 2 = some (iv .i64 b) ∧ lget σ.env 3 = some (iv .i64 L2) ∧ lget σ.env 4 = some (cmpv c r) ∧ lget σ.env 10 = some (.sc (.bool w1)) ∧ lget σ.env 11 = some (.sc (.bool w2)) ∧ lget σ.env 12 = some (iv .i64 ((b : Int) - (a : Int))) ∧ lget σ.env 13 = some (iv .i64 p) ∧ σ.rows = [(0, ⟨0, true, false, .cells 11 (pa y)⟩)]
theorem c_pdq (H : Cmp c r cf) : ∀ (n : Nat) (d : Array Tm) (a0 b0 L0 : Nat), b0 - a0 ≤ n → a0 ≤ b0 → b0 ≤ d.size → d.size < 1152921504606846976 → L0 < 1000 →
  CT 218 (qargs d a0 b0 L0 c r) { val := .tup [], args := qargs (pdq (ltc cf) d a0 b0 L0 true true) a0 b0 L0 c r } := by
 have rc := H.rc
 simp only [go_sem] at rc
 intro n
 induction n using Nat.strongRecOn with
 | ind n ih0 =>
 intro d a0 b0 L0 hn hab0 hb0 hs hL0
 have ih : ∀ (z : Array Tm) (a' b' L' : Nat), b' - a' < b0 - a0 → a' ≤ b' → b' ≤ z.size → z.size < 1152921504606846976 → L' < 1000 → CT 218 (qargs z a' b' L' c r) { val := .tup [], args := qargs (pdq (ltc cf) z a' b' L' true true) a' b' L' c r } :=
  fun z a' b' L' h1 h2 h3 h4 h5 => ih0 (b' - a') (by omega) z a' b' L' (Nat.le_refl _) h2 h3 h4 h5
 clear ih0 hn
 refine Ctr.intro ⟨Tryz.f218, _, Tryz.call218, Tryz.func218, fold_body (by rfl) (by kernel_rfl), (by simp [Tryz.ntmps218]), (by simp), (by kernel_rfl), ?_⟩
 refine wks ?_
 refine wk0 ?_
 refine run_loop [0, 1, 2, 3, 4, 10, 11] [0] (α := {s : Nat × Nat × Nat × Bool × Bool × Array Tm // s.2.2.2.2.2.size = d.size ∧ s.1 ≤ s.2.1 ∧ s.2.1 ≤ d.size ∧ s.2.1 - s.1 ≤ b0 - a0 ∧ s.2.2.1 < 1000 ∧ pdq (ltc cf) s.2.2.2.2.2 s.1 s.2.1 s.2.2.1 s.2.2.2.1 s.2.2.2.2.1 = pdq (ltc cf) d a0 b0 L0 true true})
  (fun s => ⟨[(0, .hs ⟨0, 0⟩ 0 d.size), (1, iv .i64 s.1.1), (2, iv .i64 s.1.2.1), (3, iv .i64 s.1.2.2.1), (4, cmpv c r), (10, .sc (.bool s.1.2.2.2.1)), (11, .sc (.bool s.1.2.2.2.2.1))], [(0, ⟨0, true, false, .cells 11 (pa s.1.2.2.2.2.2)⟩)]⟩)
  (fun s => s.1.2.1 - s.1.1) ⟨(a0, b0, L0, true, true, d), rfl, hab0, hb0, Nat.le_refl _, hL0, rfl⟩ (by first | rfl | simp [tc, qc]) ?_
 generalize pdq (ltc cf) d a0 b0 L0 true true = R
 rintro ⟨⟨a, b, L, wb, wp, x⟩, hx, hab, hb, hle, hL, hI⟩
 simp only at hx hab hb hle hL hI
 refine Eq.mpr run_block ?_
 refine Eq.mpr (run_flat []) ?_
 refine Eq.mpr (run_flat [_]) ?_
 refine Eq.mpr (run_flat [_, _]) ?_
 refine Eq.mpr (run_flat [_, _, _]) ?_
 refine Eq.mpr (run_flat [_, _, _, _]) ?_
 refine Eq.mpr (run_flat [_, _, _, _, _]) ?_
 refine Eq.mpr (run_flat [_, _, _, _, _, _]) ?_
 refine run_cutp (TSp cf c r d R a b L) ?_ [_, _, _, _, _, _, _] ?_
 ·rintro ⟨e, rows⟩ ⟨y, p, L2, w1, w2, ⟨hy, ⟨hp1, hp2⟩, hL2, h12b, hI2⟩, h0, h1, h2, h3, h4, h10, h11, h12, h13, hrows⟩
  simp only at h0 h1 h2 h3 h4 h10 h11 h12 h13 hrows
  subst hrows
  have hf := And.intro h0 (And.intro h1 (And.intro h2 (And.intro h3 (And.intro h4 (And.intro h10 (And.intro h11 (And.intro h12 h13)))))))
  have hJ := hI2
  have hL3 : L2 < 1000 := by omega
  clear hI2
  have hab12 : a < b := by omega
  refine wk1 @hf ?_
  refine guardK.dec (fun hg => ?_) (fun hg => ?_)
  ·refine wk6 @H.s0 @H.s1 @H.s2 @H.oc @rc @hf ?_
   refine callI (H.ctr _ _) ?_
   refine wk1 @hf ?_
   refine vcalm (by kernel_rfl) ?_
   refine condN (fun hq => ?_) (fun hq => ?_)
   ·have hc : (decide (a > 0) && !ltc cf y[a - 1]! y[p]!) = true := by simp [ltc, hq]; omega
    have hr := partEq_range (lt := ltc cf) y a b (p) hab12 (by omega)
    have hpc := c_partEq H y a b (p) hab12 (by omega) (by omega) (by omega)
    rw [pdqT_eq hab12 (by omega) hc] at hJ
    generalize partitionEqual (ltc cf) y a b (p) = P at *
    obtain ⟨mid, z⟩ := P
    simp only at hr hpc hJ
    obtain ⟨hr1, hr2, hr3⟩ := hr
    refine wk1 @hf ?_
    refine callI (hpc) ?_
    refine wk1 @hf ?_
    exact ⟨⟨(mid, b, L2, w1, w2, z), by simp only; omega, by simp only; omega, by simp only; omega, by simp only; omega, by simp only; omega, hJ⟩, (by first | rfl | simp [keep, keepEnv, keepRows, keepAV, keepPl, keepBody, keepElems, keepElem, keepCells, lget, inL, normG, hf]), by simp only; omega⟩
   ·have hc : (decide (a > 0) && !ltc cf y[a - 1]! y[p]!) = false := by simp [ltc, hq]
    have hr := partition_range (lt := ltc cf) y a b (p) hab12 (by omega)
    have hpc := c_part H y a b (p) hab12 (by omega) (by omega) (by omega)
    have hLT := fun h2 => (pdqT_lt (lt := ltc cf) (x := y) (p := p) (L := L2) (wb := w1) (wp := w2) hab12 (by omega) hc h2).symm.trans hJ
    have hGE := fun h2 => (pdqT_ge (lt := ltc cf) (x := y) (p := p) (L := L2) (wb := w1) (wp := w2) hab12 (by omega) hc h2).symm.trans hJ
    clear hJ hc
    generalize partition (ltc cf) y a b (p) = P at *
    obtain ⟨mid, ap, z⟩ := P
    simp only at hr hpc hLT hGE
    obtain ⟨hr1, hr2, hr3⟩ := hr
    have e1 : ((b : Int) - (a : Int)).tdiv 8 = (((b - a) / 8 : Nat) : Int) := by rw [Int.tdiv_eq_ediv_of_nonneg (by omega)]; omega
    refine wk1 @hf ?_
    refine callI (hpc) ?_
    refine wk2 @e1 @hf ?_
    refine condK.dec (fun hlt => ?_) (fun hlt => ?_)
    ·have hJ := hLT (by omega)
     clear hLT hGE
     have hih := ih z a mid L2 (by omega) (by omega) (by omega) (by omega) (by omega)
     have hihs := pdqS H.swo _ z a mid L2 true true (Nat.le_refl _) (by omega) (by omega)
     generalize pdq (ltc cf) z a mid L2 true true = z2 at *
     have hz2 : z2.size = d.size := by omega
     have e2 : (decide (((mid : Int) - (a : Int)) ≥ (((b - a) / 8 : Nat) : Int))) = (decide (mid - a ≥ (b - a) / 8)) := by
      apply decide_eq_decide.mpr; omega
     refine wk2 @e2 @hf ?_
     refine callI (hih) ?_
     refine wk1 @hf ?_
     exact ⟨⟨(mid + 1, b, L2, decide (mid - a ≥ (b - a) / 8), ap, z2), by simp only; omega, by simp only; omega, by simp only; omega, by simp only; omega, by simp only; omega, hJ⟩, (by first | rfl | simp [keep, keepEnv, keepRows, keepAV, keepPl, keepBody, keepElems, keepElem, keepCells, lget, inL, normG, hf]), by simp only; omega⟩
    ·have hJ := hGE (by omega)
     clear hLT hGE
     have hih := ih z (mid + 1) b L2 (by omega) (by omega) (by omega) (by omega) (by omega)
     have hihs := pdqS H.swo _ z (mid + 1) b L2 true true (Nat.le_refl _) (by omega) (by omega)
     generalize pdq (ltc cf) z (mid + 1) b L2 true true = z2 at *
     have hz2 : z2.size = d.size := by omega
     have e2 : (decide (((b : Int) - (mid : Int)) ≥ (((b - a) / 8 : Nat) : Int))) = (decide (b - mid ≥ (b - a) / 8)) := by
      apply decide_eq_decide.mpr; omega
     refine wk2 @e2 @hf ?_
     refine callI (hih) ?_
     refine wk1 @hf ?_
     exact ⟨⟨(a, mid, L2, decide (b - mid ≥ (b - a) / 8), ap, z2), by simp only; omega, by simp only; omega, by simp only; omega, by simp only; omega, by simp only; omega, hJ⟩, (by first | rfl | simp [keep, keepEnv, keepRows, keepAV, keepPl, keepBody, keepElems, keepElem, keepCells, lget, inL, normG, hf]), by simp only; omega⟩
  ·have hc : (decide (a > 0) && !ltc cf y[a - 1]! y[p]!) = false := by simp; omega
   refine wk1 @hf ?_
   refine vcalm (by kernel_rfl) ?_
   have hr := partition_range (lt := ltc cf) y a b (p) hab12 (by omega)
   have hpc := c_part H y a b (p) hab12 (by omega) (by omega) (by omega)
   have hLT := fun h2 => (pdqT_lt (lt := ltc cf) (x := y) (p := p) (L := L2) (wb := w1) (wp := w2) hab12 (by omega) hc h2).symm.trans hJ
   have hGE := fun h2 => (pdqT_ge (lt := ltc cf) (x := y) (p := p) (L := L2) (wb := w1) (wp := w2) hab12 (by omega) hc h2).symm.trans hJ
   clear hJ hc
   generalize partition (ltc cf) y a b (p) = P at *
   obtain ⟨mid, ap, z⟩ := P
   simp only at hr hpc hLT hGE
   obtain ⟨hr1, hr2, hr3⟩ := hr
   have e1 : ((b : Int) - (a : Int)).tdiv 8 = (((b - a) / 8 : Nat) : Int) := by rw [Int.tdiv_eq_ediv_of_nonneg (by omega)]; omega
   refine wk1 @hf ?_
   refine callI (hpc) ?_
   refine wk2 @e1 @hf ?_
   refine condK.dec (fun hlt => ?_) (fun hlt => ?_)
   ·have hJ := hLT (by omega)
    clear hLT hGE
    have hih := ih z a mid L2 (by omega) (by omega) (by omega) (by omega) (by omega)
    have hihs := pdqS H.swo _ z a mid L2 true true (Nat.le_refl _) (by omega) (by omega)
    generalize pdq (ltc cf) z a mid L2 true true = z2 at *
    have hz2 : z2.size = d.size := by omega
    have e2 : (decide (((mid : Int) - (a : Int)) ≥ (((b - a) / 8 : Nat) : Int))) = (decide (mid - a ≥ (b - a) / 8)) := by
     apply decide_eq_decide.mpr; omega
    refine wk2 @e2 @hf ?_
    refine callI (hih) ?_
    refine wk1 @hf ?_
    exact ⟨⟨(mid + 1, b, L2, decide (mid - a ≥ (b - a) / 8), ap, z2), by simp only; omega, by simp only; omega, by simp only; omega, by simp only; omega, by simp only; omega, hJ⟩, (by first | rfl | simp [keep, keepEnv, keepRows, keepAV, keepPl, keepBody, keepElems, keepElem, keepCells, lget, inL, normG, hf]), by simp only; omega⟩
   ·have hJ := hGE (by omega)
    clear hLT hGE
    have hih := ih z (mid + 1) b L2 (by omega) (by omega) (by omega) (by omega) (by omega)
    have hihs := pdqS H.swo _ z (mid + 1) b L2 true true (Nat.le_refl _) (by omega) (by omega)
    generalize pdq (ltc cf) z (mid + 1) b L2 true true = z2 at *
    have hz2 : z2.size = d.size := by omega
    have e2 : (decide (((b : Int) - (mid : Int)) ≥ (((b - a) / 8 : Nat) : Int))) = (decide (b - mid ≥ (b - a) / 8)) := by
     apply decide_eq_decide.mpr; omega
    refine wk2 @e2 @hf ?_
    refine callI (hih) ?_
    refine wk1 @hf ?_
    exact ⟨⟨(a, mid, L2, decide (b - mid ≥ (b - a) / 8), ap, z2), by simp only; omega, by simp only; omega, by simp only; omega, by simp only; omega, by simp only; omega, hJ⟩, (by first | rfl | simp [keep, keepEnv, keepRows, keepAV, keepPl, keepBody, keepElems, keepElem, keepCells, lget, inL, normG, hf]), by simp only; omega⟩
 refine wk0 ?_
 refine condK.dec (fun h12 => ?_) (fun h12 => ?_)
 ·rw [pdq_ins (by omega)] at hI
  have hc := c_insertion H x a b (by omega) (by omega) (by omega)
  rw [hI] at hc
  refine wk0 ?_
  refine callI (hc) ?_
  refine wk0 ?_
  simp [memOut, lget, VC]
 ·refine wk0 ?_
  refine condK.dec (fun hL0 => ?_) (fun hL0 => ?_)
  ·have hLz : L = 0 := by omega
   subst hLz
   rw [pdq_heap (by omega)] at hI
   have hc := c_heapSort H x a b hab (by omega) (by omega)
   rw [hI] at hc
   refine wk0 ?_
   refine callI (hc) ?_
   refine wk0 ?_
   simp [memOut, lget, VC]
  ·cases wb with
   | false =>
    rw [pdq_unbal (by omega) (by omega)] at hI
    have hbk := c_break (c := c) (r := r) x a b hab (by omega) (by omega)
    have hbs := breakS x a b hab (by omega)
    generalize breakPatterns x a b = y at *
    have hy : y.size = d.size := by omega
    have fL : (L : Int) - 1 = ((L - 1 : Nat) : Int) := by omega
    refine wk0 ?_
    refine callI (hbk) ?_
    refine wk1 @fL ?_
    have hch := c_choose H y a b (by omega) (by omega) (by omega)
    have hcr := choosePivot_holds (ltc cf) y a b (by omega)
    unfold pdqP at hI
    simp only at hI
    generalize choosePivot (ltc cf) y a b = C at *
    obtain ⟨pv, hint⟩ := C
    obtain ⟨hc1, hc2⟩ := hcr
    simp only at hI hc1 hc2
    refine wk0 ?_
    refine callI (hch) ?_
    cases hint with
    | unknown =>
     simp only [reduceCtorEq, if_false, if_true, ite_true, ite_false, decide_true, decide_false, Bool.and_true, Bool.and_false, Bool.true_and, Bool.false_and, Bool.false_eq_true, eq_self] at hI
     refine wk3 @hnt.eq_1 @hnt.eq_2 @hnt.eq_3 ?_
     have hab12 : a < b := by omega
     exact ⟨y, pv, (L - 1), false, wp, ⟨by omega, by omega, by omega, by omega, hI⟩, by rfl, by rfl, by rfl, by rfl, by rfl, by rfl, by rfl, by first | rfl | (simp [lget]; done), by first | rfl | (simp [lget]; done), by rfl⟩
    | increasing =>
     simp only [reduceCtorEq, if_false, if_true, ite_true, ite_false, decide_true, decide_false, Bool.and_true, Bool.and_false, Bool.true_and, Bool.false_and, Bool.false_eq_true, eq_self] at hI
     refine wk3 @hnt.eq_1 @hnt.eq_2 @hnt.eq_3 ?_
     have hab12 : a < b := by omega
     exact ⟨y, pv, (L - 1), false, wp, ⟨by omega, by omega, by omega, by omega, hI⟩, by rfl, by rfl, by rfl, by rfl, by rfl, by rfl, by rfl, by first | rfl | (simp [lget]; done), by first | rfl | (simp [lget]; done), by rfl⟩
    | decreasing =>
     simp only [reduceCtorEq, if_false, if_true, ite_true, ite_false, decide_true, decide_false, Bool.and_true, Bool.and_false, Bool.true_and, Bool.false_and, Bool.false_eq_true, eq_self] at hI
     have hrv := c_reverse (c := c) (r := r) y a b (by omega) (by omega)
     have hrs := reverseS y a b hab (by omega)
     have hpv : ((b : Int) - 1 - ((pv : Int) - (a : Int))) = ((b - 1 - (pv - a) : Nat) : Int) := by omega
     generalize reverseRange y a b = y2 at *
     have hy2 : y2.size = d.size := by omega
     obtain ⟨p2, hp2⟩ : ∃ p2, p2 = b - 1 - (pv - a) := ⟨_, rfl⟩
     rw [← hp2] at hpv hI
     have hp3 : a ≤ p2 ∧ p2 < b := by omega
     refine wk3 @hnt.eq_1 @hnt.eq_2 @hnt.eq_3 ?_
     refine callI (hrv) ?_
     refine wk1 @hpv ?_
     have hab12 : a < b := by omega
     exact ⟨y2, p2, (L - 1), false, wp, ⟨by omega, by omega, by omega, by omega, hI⟩, by rfl, by rfl, by rfl, by rfl, by rfl, by rfl, by rfl, by first | rfl | (simp [lget]; done), by first | rfl | (simp [lget]; done), by rfl⟩
   | true =>
    rw [pdq_bal (by omega) (by omega)] at hI
    cases wp with
    | false =>
     have hch := c_choose H x a b (by omega) (by omega) (by omega)
     have hcr := choosePivot_holds (ltc cf) x a b (by omega)
     unfold pdqP at hI
     simp only at hI
     generalize choosePivot (ltc cf) x a b = C at *
     obtain ⟨pv, hint⟩ := C
     obtain ⟨hc1, hc2⟩ := hcr
     simp only at hI hc1 hc2
     refine wk0 ?_
     refine callI (hch) ?_
     cases hint with
     | unknown =>
      simp only [reduceCtorEq, if_false, if_true, ite_true, ite_false, decide_true, decide_false, Bool.and_true, Bool.and_false, Bool.true_and, Bool.false_and, Bool.false_eq_true, eq_self] at hI
      refine wk3 @hnt.eq_1 @hnt.eq_2 @hnt.eq_3 ?_
      have hab12 : a < b := by omega
      exact ⟨x, pv, L, true, false, ⟨by omega, by omega, by omega, by omega, hI⟩, by rfl, by rfl, by rfl, by rfl, by rfl, by rfl, by rfl, by first | rfl | (simp [lget]; done), by first | rfl | (simp [lget]; done), by rfl⟩
     | increasing =>
      simp only [reduceCtorEq, if_false, if_true, ite_true, ite_false, decide_true, decide_false, Bool.and_true, Bool.and_false, Bool.true_and, Bool.false_and, Bool.false_eq_true, eq_self] at hI
      refine wk3 @hnt.eq_1 @hnt.eq_2 @hnt.eq_3 ?_
      have hab12 : a < b := by omega
      exact ⟨x, pv, L, true, false, ⟨by omega, by omega, by omega, by omega, hI⟩, by rfl, by rfl, by rfl, by rfl, by rfl, by rfl, by rfl, by first | rfl | (simp [lget]; done), by first | rfl | (simp [lget]; done), by rfl⟩
     | decreasing =>
      simp only [reduceCtorEq, if_false, if_true, ite_true, ite_false, decide_true, decide_false, Bool.and_true, Bool.and_false, Bool.true_and, Bool.false_and, Bool.false_eq_true, eq_self] at hI
      have hrv := c_reverse (c := c) (r := r) x a b (by omega) (by omega)
      have hrs := reverseS x a b hab (by omega)
      have hpv : ((b : Int) - 1 - ((pv : Int) - (a : Int))) = ((b - 1 - (pv - a) : Nat) : Int) := by omega
      generalize reverseRange x a b = y2 at *
      have hy2 : y2.size = d.size := by omega
      obtain ⟨p2, hp2⟩ : ∃ p2, p2 = b - 1 - (pv - a) := ⟨_, rfl⟩
      rw [← hp2] at hpv hI
      have hp3 : a ≤ p2 ∧ p2 < b := by omega
      refine wk3 @hnt.eq_1 @hnt.eq_2 @hnt.eq_3 ?_
      refine callI (hrv) ?_
      refine wk1 @hpv ?_
      have hab12 : a < b := by omega
      exact ⟨y2, p2, L, true, false, ⟨by omega, by omega, by omega, by omega, hI⟩, by rfl, by rfl, by rfl, by rfl, by rfl, by rfl, by rfl, by first | rfl | (simp [lget]; done), by first | rfl | (simp [lget]; done), by rfl⟩
    | true =>
     have hch := c_choose H x a b (by omega) (by omega) (by omega)
     have hcr := choosePivot_holds (ltc cf) x a b (by omega)
     unfold pdqP at hI
     simp only at hI
     generalize choosePivot (ltc cf) x a b = C at *
     obtain ⟨pv, hint⟩ := C
     obtain ⟨hc1, hc2⟩ := hcr
     simp only at hI hc1 hc2
     refine wk0 ?_
     refine callI (hch) ?_
     cases hint with
     | unknown =>
      simp only [reduceCtorEq, if_false, if_true, ite_true, ite_false, decide_true, decide_false, Bool.and_true, Bool.and_false, Bool.true_and, Bool.false_and, Bool.false_eq_true, eq_self] at hI
      refine wk3 @hnt.eq_1 @hnt.eq_2 @hnt.eq_3 ?_
      have hab12 : a < b := by omega
      exact ⟨x, pv, L, true, true, ⟨by omega, by omega, by omega, by omega, hI⟩, by rfl, by rfl, by rfl, by rfl, by rfl, by rfl, by rfl, by first | rfl | (simp [lget]; done), by first | rfl | (simp [lget]; done), by rfl⟩
     | increasing =>
      simp only [reduceCtorEq, if_false, if_true, ite_true, ite_false, decide_true, decide_false, Bool.and_true, Bool.and_false, Bool.true_and, Bool.false_and, Bool.false_eq_true, eq_self] at hI
      refine wk3 @hnt.eq_1 @hnt.eq_2 @hnt.eq_3 ?_
      have hpi := c_partIns H x a b (by omega) (by omega) (by omega)
      have hps := partialInsertionS (lt := ltc cf) (a := a) (b := b) (x := x)
      generalize partialInsertionSort (ltc cf) x a b = Q at *
      obtain ⟨y3, q⟩ := Q
      simp only at hI hps hpi
      have hy3 : y3.size = d.size := by omega
      refine wk0 ?_
      refine callI (hpi) ?_
      cases q with
      | true =>
       simp only [if_true] at hI
       refine wk1 @hI ?_
       simp [memOut, lget, VC]
      | false =>
       simp only [Bool.false_eq_true, if_false] at hI
       refine wk0 ?_
       have hab12 : a < b := by omega
       exact ⟨y3, pv, L, true, true, ⟨by omega, by omega, by omega, by omega, hI⟩, by rfl, by rfl, by rfl, by rfl, by rfl, by rfl, by rfl, by first | rfl | (simp [lget]; done), by first | rfl | (simp [lget]; done), by rfl⟩
     | decreasing =>
      simp only [reduceCtorEq, if_false, if_true, ite_true, ite_false, decide_true, decide_false, Bool.and_true, Bool.and_false, Bool.true_and, Bool.false_and, Bool.false_eq_true, eq_self] at hI
      have hrv := c_reverse (c := c) (r := r) x a b (by omega) (by omega)
      have hrs := reverseS x a b hab (by omega)
      have hpv : ((b : Int) - 1 - ((pv : Int) - (a : Int))) = ((b - 1 - (pv - a) : Nat) : Int) := by omega
      generalize reverseRange x a b = y2 at *
      have hy2 : y2.size = d.size := by omega
      obtain ⟨p2, hp2⟩ : ∃ p2, p2 = b - 1 - (pv - a) := ⟨_, rfl⟩
      rw [← hp2] at hpv hI
      have hp3 : a ≤ p2 ∧ p2 < b := by omega
      refine wk3 @hnt.eq_1 @hnt.eq_2 @hnt.eq_3 ?_
      refine callI (hrv) ?_
      refine wk1 @hpv ?_
      have hpi := c_partIns H y2 a b (by omega) (by omega) (by omega)
      have hps := partialInsertionS (lt := ltc cf) (a := a) (b := b) (x := y2)
      generalize partialInsertionSort (ltc cf) y2 a b = Q at *
      obtain ⟨y3, q⟩ := Q
      simp only at hI hps hpi
      have hy3 : y3.size = d.size := by omega
      refine wk0 ?_
      refine callI (hpi) ?_
      cases q with
      | true =>
       simp only [if_true] at hI
       refine wk1 @hI ?_
       simp [memOut, lget, VC]
      | false =>
       simp only [Bool.false_eq_true, if_false] at hI
       refine wk0 ?_
       have hab12 : a < b := by omega
       exact ⟨y3, p2, L, true, true, ⟨by omega, by omega, by omega, by omega, hI⟩, by rfl, by rfl, by rfl, by rfl, by rfl, by rfl, by rfl, by first | rfl | (simp [lget]; done), by first | rfl | (simp [lget]; done), by rfl⟩
end Go.Proofs.YteipiejlljnclaaGreatDoor
