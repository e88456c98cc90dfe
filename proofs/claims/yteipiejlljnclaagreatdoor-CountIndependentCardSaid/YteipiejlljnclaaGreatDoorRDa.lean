/- Polynomials of the oracle (exactpplref03): a term put in, sums, the normal form. Conditions stand in each. -/
import Derived.Test.YteipiejlljnclaaGreatDoorRCw
set_option linter.unusedVariables false
set_option linter.unusedSimpArgs false
set_option maxRecDepth 10000
set_option maxHeartbeats 4000000
section
namespace Go.Proofs.YteipiejlljnclaaGreatDoor
open Go Go.AL
attribute [local irreducible] run opK opD callK
attribute [local simp] keep keepEnv keepRows keepAV keepPl keepBody keepElems keepElem keepCells lget inL normG mc_keep mc_keep0
theorem ins_split {a b : List Tm} {t : Tm} (h : ∀ s ∈ a, mgt s.1 t.1 = true) : ins (a ++ b) t = a ++ ins b t := by
 induction a with
 | nil => rfl
 | cons s a ih => rw [List.cons_append, ins, if_pos (h s (.head _)), ih fun s hs => h s (.tail _ hs)]; rfl
theorem sgn_zero {q : Rat} : sgn q = 0 ↔ q = 0 := by
 unfold sgn
 constructor
 ·intro h
  by_cases h0 : q.num = 0
  ·exact Rat.num_eq_zero.1 h0
  ·rw [if_neg h0] at h; split at h <;> cases h
 ·rintro rfl; rfl
theorem c_Normq (q : Rat) (h : Qz q) : CT 114 [.data (qr q)] { val := qr q, args := [.data (qr q)] } := by
 have := c_Norm2 (decide (q.num < 0)) _ _ h.n h.d
 rwa [ratOf_qr] at this
theorem c_Signq (q : Rat) (h : Qz q) : CT 115 [.data (qr q)] { val := iv .i64 (sgn q), args := [.data (qr q)] } := by
 have := c_Sign2 (decide (q.num < 0)) _ _ h.n h.d
 rwa [ratOf_qr] at this
theorem c_RAddq (x y : Rat) (hx : Qz x) (hy : Qz y) : CT 113 [.data (qr x), .data (qr y)] { val := qr (x + y), args := [.data (qr x), .data (qr y)] } := by
 have := c_RAdd2 (decide (x.num < 0)) (decide (y.num < 0)) _ _ _ _ hx.n hx.d hy.n hy.d
 rwa [ratOf_qr, ratOf_qr] at this
theorem c_RMulq (x y : Rat) (hx : Qz x) (hy : Qz y) : CT 121 [.data (qr x), .data (qr y)] { val := qr (x * y), args := [.data (qr x), .data (qr y)] } := by
 have := c_RMul2 (decide (x.num < 0)) (decide (y.num < 0)) _ _ _ _ hx.n hx.d hy.n hy.d
 rwa [ratOf_qr, ratOf_qr] at this
theorem mgt_mono {p : List Tm} (hp : Cn p) {i j : Nat} (h : i ≤ j) (hj : j < p.length) {m : Mo} (hm : mgt (gp p j).1 m = true) : mgt (gp p i).1 m = true := by
 rcases Nat.lt_or_ge i j with hlt | hge
 ·have e1 : gp p i = p[i] := by simp [gp, List.getD, show i < p.length by omega]
  have e2 : gp p j = p[j] := by simp [gp, List.getD, hj]
  have := List.pairwise_iff_getElem.1 hp.1 i j (by omega) hj hlt
  rw [e1]
  rw [e2] at hm
  exact mgt_trans this hm
 ·rw [show i = j by omega]; exact hm
theorem c_Insert (p : List Tm) (t : Tm) (hp : Cn p) (hq : ∀ s ∈ p, Qz s.2) (ht : Qz t.2) (hs : ∀ s ∈ p, s.1 = t.1 → Qz (t.2 + s.2)) (hl : p.length < 549755813888) : CT 59 [pdat p, tdat t]
  {val := .sl 11 (ps (ins p t)), args := [pdat p, tdat t] } := by
 obtain ⟨m, c⟩ := t
 refine Ctr.intro ⟨Tryz.f59, _, Tryz.call59, Tryz.func59, fold_body (by rfl) (by kernel_rfl), (by simp [Tryz.ntmps59]), (by simp), (by kernel_rfl), ?_⟩
 refine wks ?_
 refine wk0 ?_
 refine run_loop [0, 3, 5, 6] [3] (α := {s : Nat × Nat // s.1 ≤ s.2 ∧ s.2 ≤ p.length ∧ (∀ i, i < s.1 → mgt (gp p i).1 m = true) ∧ (∀ i, s.2 ≤ i → i < p.length → mgt (gp p i).1 m = false)})
  (fun s => ⟨[(0, .sl 11 (ps p)), (3, .hp ⟨3, 1⟩ 0 0), (5, iv .i64 s.1.1), (6, iv .i64 s.1.2)], [(3, ⟨1, true, true, .cells 11 [tc (m, c)]⟩)]⟩)
  (fun s => s.1.2 - s.1.1) ⟨(0, p.length), Nat.zero_le _, Nat.le_refl _, fun _ h => absurd h (Nat.not_lt_zero _), fun _ h h' => absurd h' (by omega)⟩ (by first | rfl | simp [tc, qc]) ?_
 rintro ⟨⟨lo, hi⟩, h1, h2, h3, h4⟩
 simp only at h1 h2 h3 h4
 refine wk0 ?_
 refine condK.dec (fun h => ?_) (fun h => ?_)
 ·have hmid : ((lo : Int) + (hi : Int)).tdiv 2 = ((lo + hi) / 2 : Nat) := by
   rw [Int.tdiv_eq_ediv_of_nonneg (by omega)]; omega
  have hmlt : (lo + hi) / 2 < p.length := by omega
  refine wk1 @hmid ?_
  refine callI (c_Greater _ _) ?_
  refine wk1 @hmid ?_
  refine vcalm (by kernel_rfl) ?_
  refine condK.intro (fun hb => ?_) (fun hb => ?_)
  ·refine wk0 ?_
   refine ⟨⟨((lo + hi) / 2 + 1, hi), by simp only; omega, h2, fun i hi' => ?_, h4⟩, (by first | rfl | simp [tc, qc]), by simp only; omega⟩
   exact mgt_mono hp (by simp only at hi'; omega) hmlt hb
  ·refine wk0 ?_
   refine ⟨⟨(lo, (lo + hi) / 2), by simp only; omega, by simp only; omega, h3, fun i hi' hi2 => ?_⟩, (by first | rfl | simp [tc, qc]), by simp only; omega⟩
   cases hh : mgt (gp p i).1 m
   ·rfl
   ·have := mgt_mono hp (by simpa using hi') hi2 hh
    rw [this] at hb; cases hb
 ·have hlh : lo = hi := by omega
  subst hlh
  have hsplit : p = p.take lo ++ p.drop lo := (List.take_append_drop lo p).symm
  have hins : ins p (m, c) = p.take lo ++ ins (p.drop lo) (m, c) := by
   conv => lhs; rw [hsplit]
   refine ins_split fun s hs => ?_
   obtain ⟨i, hi, rfl⟩ := List.mem_iff_getElem.1 hs
   rw [List.length_take] at hi
   have := h3 i (by omega)
   simpa [gp, List.getD, show i < p.length by omega] using this
  rw [hins]
  have e8 : ((p.length : Int) - ((lo : Int) + 1)).toNat = p.length - (lo + 1) := by omega
  have e9 : (p.drop (lo + 1)).take (p.length - (lo + 1)) = p.drop (lo + 1) := List.take_of_length_le (by simp)
  have e10 : (p.drop lo).take (p.length - lo) = p.drop lo := List.take_of_length_le (by simp)
  refine wk0 ?_
  refine guardK.dec (fun h5 => ?_) (fun h5 => ?_)
  ·have hgt := h4 lo (Nat.le_refl _) (by omega)
   have hmem : gp p lo ∈ p := gp_mem (by omega)
   refine wk0 ?_
   refine vcalm (by kernel_rfl) ?_
   refine condK.dec (fun h6 => ?_) (fun h6 => ?_)
   ·have hq2 := hs _ hmem h6
    have e : ins (p.drop lo) (m, c) = if c + (gp p lo).2 = 0 then p.drop (lo + 1) else (m, c + (gp p lo).2) :: p.drop (lo + 1) := by
     rw [gp_drop (by omega), ins, if_neg (by rw [hgt]; simp), if_pos h6]
    rw [e]
    have hgq := hq _ hmem
    simp only at hq2
    subst h6
    clear hgt e hins hs
    refine wk0 ?_
    refine callI (c_RAddq c (gp p lo).2 ht hgq) ?_
    generalize c + (gp p lo).2 = r at *
    refine wk1 @qr.eq_1 ?_
    refine vcalm (by kernel_rfl) ?_
    refine wk0 ?_
    refine callI (c_Normq r hq2) ?_
    refine wk1 @qr.eq_1 ?_
    refine callI (c_Signq r hq2) ?_
    refine wk1 @qr.eq_1 ?_
    refine condK.dec (fun h7 => ?_) (fun h7 => ?_)
    ·have hr0 : r ≠ 0 := fun h => h7 (sgn_zero.2 h)
     rw [if_neg hr0]
     refine wk3 @e8 @e9 @List.take_length.{0} ?_
     refine ⟨⟨by simp [ps] <;> omega, ?_⟩, trivial⟩
     rw [List.take_of_length_le (by simp [ps] <;> omega), List.take_of_length_le (by simp [ps])]
     simp [ps, tc, qc]
    ·have hr0 : r = 0 := sgn_zero.1 (Classical.not_not.1 h7)
     rw [if_pos hr0]
     refine wk3 @e8 @e9 @List.take_length.{0} ?_
     refine ⟨⟨by simp [ps] <;> omega, ?_⟩, trivial⟩
     rw [List.take_of_length_le (by simp [ps] <;> omega)]
   ·have e : ins (p.drop lo) (m, c) = if c = 0 then p.drop lo else (m, c) :: p.drop lo := by
     rw [gp_drop (by omega), ins, if_neg (by rw [hgt]; simp), if_neg h6]
    rw [e]
    clear e hins hs
    simp only at ht
    refine wk0 ?_
    refine callI (c_Normq c ht) ?_
    refine wk1 @qr.eq_1 ?_
    refine callI (c_Signq c ht) ?_
    refine wk1 @qr.eq_1 ?_
    refine condK.dec (fun h7 => ?_) (fun h7 => ?_)
    ·have hr0 : c ≠ 0 := fun h => h7 (sgn_zero.2 h)
     rw [if_neg hr0]
     refine wk2 @e10 @List.take_length.{0} ?_
     refine ⟨⟨by simp [ps] <;> omega, ?_⟩, trivial⟩
     rw [List.take_of_length_le (by simp [ps] <;> omega), List.take_of_length_le (by simp [ps])]
     simp [ps, tc, qc]
    ·have hr0 : c = 0 := sgn_zero.1 (Classical.not_not.1 h7)
     rw [if_pos hr0]
     refine wk2 @e10 @List.take_length.{0} ?_
     refine ⟨⟨by simp [ps] <;> omega, ?_⟩, trivial⟩
     rw [List.take_of_length_le (by simp [ps] <;> omega)]
  ·have e : ins (p.drop lo) (m, c) = if c = 0 then p.drop lo else (m, c) :: p.drop lo := by
    rw [List.drop_eq_nil_of_le (by omega), ins]
   refine wk0 ?_
   refine vcalm (by kernel_rfl) ?_
   rw [e]
   clear e hins hs
   simp only at ht
   refine wk0 ?_
   refine callI (c_Normq c ht) ?_
   refine wk1 @qr.eq_1 ?_
   refine callI (c_Signq c ht) ?_
   refine wk1 @qr.eq_1 ?_
   refine condK.dec (fun h7 => ?_) (fun h7 => ?_)
   ·have hr0 : c ≠ 0 := fun h => h7 (sgn_zero.2 h)
    rw [if_neg hr0]
    refine wk2 @e10 @List.take_length.{0} ?_
    refine ⟨⟨by simp [ps] <;> omega, ?_⟩, trivial⟩
    rw [List.take_of_length_le (by simp [ps] <;> omega), List.take_of_length_le (by simp [ps])]
    simp [ps, tc, qc]
   ·have hr0 : c = 0 := sgn_zero.1 (Classical.not_not.1 h7)
    rw [if_pos hr0]
    refine wk2 @e10 @List.take_length.{0} ?_
    refine ⟨⟨by simp [ps] <;> omega, ?_⟩, trivial⟩
    rw [List.take_of_length_le (by simp [ps] <;> omega)]
end Go.Proofs.YteipiejlljnclaaGreatDoor
end
section
namespace Go.Proofs.YteipiejlljnclaaGreatDoor
open Go Go.AL
attribute [local irreducible] run opK opD callK
theorem Fit.le {D M M' : Nat} (h : Fit D M) (hm : M' ≤ M) : Fit D M' := ⟨h.1, h.2.le hm⟩
theorem PB.add_qz {D N K : Nat} {p : List Tm} {t s : Tm} (h : PB D N p) (ht : t.2.den ∣ D) (hK : N + (sc D t.2).natAbs ≤ K) (hf : Fit D K) (hs : s ∈ p) : Qz (t.2 + s.2) := by
 have hsd := h.den s hs
 refine Qz.of h.pos (den_add h.pos ht hsd) hf.1 (hf.2.le ?_)
 rw [sc_add h.pos ht hsd]
 have h1 := Int.natAbs_add_le (sc D t.2) (sc D s.2)
 have h2 := nrm_mem (D := D) hs
 have h3 := h.le
 omega
theorem nrm_take_succ {D : Nat} {q : List Tm} {i : Nat} (h : i < q.length) : nrm D (q.take (i + 1)) = nrm D (q.take i) + (sc D (gp q i).2).natAbs := by
 rw [gp_take h, nrm_append]; simp [nrm]
theorem nrm_take_le {D : Nat} (q : List Tm) (i : Nat) : nrm D (q.take i) ≤ nrm D q := by
 have := nrm_append D (q.take i) (q.drop i)
 rw [List.take_append_drop] at this
 omega
theorem PB.take {D M : Nat} {q : List Tm} (h : PB D M q) (i : Nat) : PB D (nrm D (q.take i)) (q.take i) := ⟨h.pos, fun t ht => h.den t (List.mem_of_mem_take ht), Nat.le_refl _⟩
theorem foldl_take_succ {q p : List Tm} {i : Nat} (h : i < q.length) : (q.take (i + 1)).foldl ins p = ins ((q.take i).foldl ins p) (gp q i) := by
 rw [gp_take h, List.foldl_append]; rfl
theorem ins_length (p : List Tm) (t : Tm) : (ins p t).length ≤ p.length + 1 := by
 induction p with
 | nil => rw [ins]; split <;> simp
 | cons s l ih =>
  rw [ins]
  split
  ·simp; omega
  ·split
   ·split <;> simp <;> omega
   ·split <;> simp
theorem foldl_ins_length (l p : List Tm) : (l.foldl ins p).length ≤ p.length + l.length := by
 induction l generalizing p with
 | nil => simp
 | cons t l ih => have := ih (ins p t); have := ins_length p t; simp; omega
theorem c_Sum (p q : List Tm) (D M M' : Nat) (hp : Cn p) (h1 : PB D M p) (h2 : PB D M' q) (hf : Fit D (M + M')) (hl : p.length + q.length < 549755813888) : CT 22 [pdat p, pdat q]
  {val := .sl 11 (ps (padd p q)), args := [pdat p, pdat q] } := by
 have e : padd p q = q.foldl ins p := (foldl_ins_nf hp q).symm
 rw [e]
 refine Ctr.intro ⟨Tryz.f22, _, Tryz.call22, Tryz.func22, fold_body (by rfl) (by kernel_rfl), (by simp [Tryz.ntmps22]), (by simp), (by kernel_rfl), ?_⟩
 refine wks ?_
 refine wk0 ?_
 refine run_loop [1, 5, 6] [] (α := {i : Nat // i ≤ q.length})
  (fun i => ⟨[(1, .sl 11 (ps q)), (5, .sl 11 (ps ((q.take i.1).foldl ins p))), (6, iv .i64 i.1)], []⟩) (fun i => q.length - i.1) ⟨0, Nat.zero_le _⟩ rfl ?_
 rintro ⟨i, hi⟩
 refine wk0 ?_
 refine condK.dec (fun h => ?_) (fun h => ?_)
 ·have hi2 : i < q.length := by omega
  have n1 := nrm_take_succ (D := D) hi2
  have n2 := nrm_take_le (D := D) q (i + 1)
  have n3 := h2.le
  have hout := h1.foldl (h2.take i)
  have hg := h2.den _ (gp_mem hi2)
  have hlen := foldl_ins_length (q.take i) p
  rw [List.length_take] at hlen
  refine wk0 ?_
  refine callI (c_Insert _ (gp q i) (foldl_ins_Cn _ hp) (fun s hs => hout.qz (hf.le (by omega)) hs) (h2.qz (hf.le (by omega)) (gp_mem hi2)) (fun s hs _ => hout.add_qz hg (by omega) hf hs) (by omega)) ?_
  rw [← foldl_take_succ hi2]
  refine wk0 ?_
  exact ⟨⟨i + 1, by omega⟩, rfl, by simp only; omega⟩
 ·have hiq : i = q.length := by omega
  subst hiq
  rw [List.take_length]
  refine wk0 ?_
  trivial
theorem c_Normalp (q : List Tm) (D M : Nat) (h2 : PB D M q) (hf : Fit D M) (hl : q.length < 549755813888) : CT 28 [pdat q] { val := .sl 11 (ps (nf q)), args := [pdat q] } := by
 have e : nf q = q.foldl ins [] := rfl
 rw [e]
 refine Ctr.intro ⟨Tryz.f28, _, Tryz.call28, Tryz.func28, fold_body (by rfl) (by kernel_rfl), (by simp [Tryz.ntmps28]), (by simp), (by kernel_rfl), ?_⟩
 refine wks ?_
 refine wk0 ?_
 refine run_loop [0, 3, 4] [3] (α := {i : Nat // i ≤ q.length})
  (fun i => match i.1 with
   | 0 => ⟨[(0, .sl 11 (ps q)), (3, .hs ⟨3, 1⟩ 0 0), (4, iv .i64 0)], [(3, ⟨1, true, false, .cells 11 []⟩)]⟩
   | i + 1 => ⟨[(0, .sl 11 (ps q)), (3, .sl 11 (ps ((q.take (i + 1)).foldl ins []))), (4, iv .i64 ((i : Int) + 1))], [(3, ⟨1, false, false, .cells 11 []⟩)]⟩) (fun i => q.length - i.1) ⟨0, Nat.zero_le _⟩ rfl ?_
 rintro ⟨i, hi⟩
 cases i with
 | zero =>
  simp only
  refine wk0 ?_
  refine condK.dec (fun h => ?_) (fun h => ?_)
  ·have hi2 : 0 < q.length := by omega
   have n1 := nrm_take_succ (D := D) hi2
   have n2 := nrm_take_le (D := D) q (0 + 1)
   have n3 := h2.le
   have hout := (PB.nil (M := 0) h2.pos).foldl (h2.take 0)
   have hg := h2.den _ (gp_mem hi2)
   have hlen := foldl_ins_length (q.take 0) []
   have hcn := foldl_ins_Cn (q.take 0) Cn.nil
   rw [List.length_take] at hlen
   simp only [List.length_nil] at hlen
   have key := c_Insert _ (gp q 0) hcn (fun s hs => hout.qz (hf.le (by omega)) hs) (h2.qz (hf.le (by omega)) (gp_mem hi2)) (fun s hs _ => hout.add_qz hg (by omega) hf hs) (by omega)
   rw [← foldl_take_succ hi2] at key
   clear hout n1 n2 n3 hlen hcn hg
   simp only [List.take_zero, List.foldl_nil, Nat.zero_add] at key
   refine wk0 ?_
   refine callI (key) ?_
   refine wk0 ?_
   exact ⟨⟨1, by omega⟩, rfl, by simp only; omega⟩
  ·have hq0 : q = [] := List.eq_nil_of_length_eq_zero (by omega)
   subst hq0
   refine wk0 ?_
   exact ⟨by simp [ps], trivial⟩
 | succ i =>
  simp only
  refine wk0 ?_
  refine condK.dec (fun h => ?_) (fun h => ?_)
  ·have hi2 : i + 1 < q.length := by omega
   have n1 := nrm_take_succ (D := D) hi2
   have n2 := nrm_take_le (D := D) q ((i + 1) + 1)
   have n3 := h2.le
   have hout := (PB.nil (M := 0) h2.pos).foldl (h2.take (i + 1))
   have hg := h2.den _ (gp_mem hi2)
   have hlen := foldl_ins_length (q.take (i + 1)) []
   have hcn := foldl_ins_Cn (q.take (i + 1)) Cn.nil
   rw [List.length_take] at hlen
   simp only [List.length_nil] at hlen
   have key := c_Insert _ (gp q (i + 1)) hcn (fun s hs => hout.qz (hf.le (by omega)) hs) (h2.qz (hf.le (by omega)) (gp_mem hi2)) (fun s hs _ => hout.add_qz hg (by omega) hf hs) (by omega)
   rw [← foldl_take_succ hi2] at key
   clear hout n1 n2 n3 hlen hcn hg
   refine wk0 ?_
   refine callI (key) ?_
   refine wk0 ?_
   exact ⟨⟨i + 1 + 1, by omega⟩, rfl, by simp only; omega⟩
  ·have hiq : i + 1 = q.length := by omega
   have e2 : q.take (i + 1) = q := by rw [hiq, List.take_length]
   rw [e2]
   refine wk0 ?_
   trivial
end Go.Proofs.YteipiejlljnclaaGreatDoor
end
section
namespace Go.Proofs.YteipiejlljnclaaGreatDoor
open Go Go.AL
attribute [local irreducible] run opK opD callK
attribute [local simp] keep keepEnv keepRows keepAV keepPl keepBody keepElems keepElem keepCells lget inL normG mc_keep mc_keep0
theorem nf_one (r : Rat) : nf [(Mo.zero, r)] = pconst r := by
 unfold nf pconst
 rw [List.foldl_cons, List.foldl_nil, ins]
theorem c_Const (r : Rat) (hr : Qz r) : CT 60 [.data (qr r)] { val := .sl 11 (ps (pconst r)), args := [.data (qr r)] } := by
 have hd : r.den ∣ r.den := Nat.dvd_refl _
 have hb := PB.one (t := (Mo.zero, r)) r.den_pos hd
 have hsc : sc r.den r = r.num := by unfold sc; rw [Nat.div_self r.den_pos]; simp
 have hf : Fit r.den (sc r.den r).natAbs := ⟨hr.d, by rw [hsc]; exact hr.n⟩
 have key := c_Normalp [(Mo.zero, r)] _ _ hb hf (by simp)
 rw [nf_one] at key
 clear hb hf hsc hd
 refine Ctr.intro ⟨Tryz.f60, _, Tryz.call60, Tryz.func60, fold_body (by rfl) (by kernel_rfl), (by simp [Tryz.ntmps60]), (by simp), (by kernel_rfl), ?_⟩
 refine wks ?_
 refine wk1 @qr.eq_1 ?_
 refine callI (key) ?_
 refine wk0 ?_
 trivial
def ptimes (p : List Tm) (t : Tm) : List Tm := (p.map fun s => (s.1.add t.1, s.2 * t.2)).filter fun s => decide (s.2 ≠ 0)
theorem ptimes_nil (t : Tm) : ptimes [] t = [] := rfl
theorem ptimes_length (p : List Tm) (t : Tm) : (ptimes p t).length ≤ p.length := by
 unfold ptimes
 have := List.length_filter_le (fun s : Tm => decide (s.2 ≠ 0)) (p.map fun s => (s.1.add t.1, s.2 * t.2))
 rwa [List.length_map] at this
theorem ptimes_take {p : List Tm} {i : Nat} (h : i < p.length) (t : Tm) : ptimes (p.take (i + 1)) t = if (gp p i).2 * t.2 = 0 then ptimes (p.take i) t else ptimes (p.take i) t ++ [((gp p i).1.add t.1, (gp p i).2 * t.2)] := by
 rw [gp_take h]
 unfold ptimes
 rw [List.map_append, List.filter_append]
 split
 ·rename_i h0; simp [h0]
 ·rename_i h0; simp [h0]
theorem c_Times (p : List Tm) (t : Tm) (hp : ∀ s ∈ p, s.1.ok ∧ Qz s.2 ∧ Qz (s.2 * t.2)) (ht : t.1.ok) (hq : Qz t.2) (hl : p.length < 549755813888) : CT 67 [pdat p, tdat t]
  {val := .sl 11 (ps (ptimes p t)), args := [pdat p, tdat t] } := by
 obtain ⟨m, c⟩ := t
 refine Ctr.intro ⟨Tryz.f67, _, Tryz.call67, Tryz.func67, fold_body (by rfl) (by kernel_rfl), (by simp [Tryz.ntmps67]), (by simp), (by kernel_rfl), ?_⟩
 refine wks ?_
 refine wk0 ?_
 refine run_loop [0, 3, 5, 6] [3, 5] (α := {i : Nat // i ≤ p.length})
  (fun i => ⟨[(0, .sl 11 (ps p)), (3, .hp ⟨3, 1⟩ 0 0), (5, .hs ⟨5, 1⟩ 0 (ptimes (p.take i.1) (m, c)).length), (6, iv .i64 i.1)], [(3, ⟨1, true, true, .cells 11 [tc (m, c)]⟩), (5, ⟨1, true, false, .cells 11 (ps (ptimes (p.take i.1) (m, c)))⟩)]⟩)
  (fun i => p.length - i.1) ⟨0, Nat.zero_le _⟩ (by simp [keep, keepEnv, keepRows, keepAV, keepPl, keepBody, keepElems, keepElem, keepCells, mc_keep, mc_keep0, lget, inL, normG, tc, qc, ptimes_nil, ps_nil]) ?_
 rintro ⟨i, hi⟩
 refine wk0 ?_
 refine condK.dec (fun h => ?_) (fun h => ?_)
 ·have hi2 : i < p.length := by omega
  obtain ⟨g1, g2, g3⟩ := hp _ (gp_mem hi2)
  have hpl := ptimes_length (p.take i) (m, c)
  rw [List.length_take] at hpl
  have hpt := ptimes_take hi2 (m, c)
  simp only at hpt
  refine wk0 ?_
  refine run_loop [0, 3, 5, 6, 7, 8] [3, 5, 7] (α := {s : Nat × Mo // s.1 ≤ 8 ∧ (∀ j, j < s.1 → s.2.g j = (gp p i).1.g j + m.g j) ∧ ∀ j, s.1 ≤ j → s.2.g j = (gp p i).1.g j})
   (fun s => ⟨[(0, .sl 11 (ps p)), (3, .hp ⟨3, 1⟩ 0 0), (5, .hs ⟨5, 1⟩ 0 (ptimes (p.take i) (m, c)).length), (6, iv .i64 i), (7, .hp ⟨7, 1⟩ 0 0), (8, iv .i64 s.1.1)], [(3, ⟨1, true, true, .cells 11 [tc (m, c)]⟩), (5, ⟨1, true, false, .cells 11 (ps (ptimes (p.take i) (m, c)))⟩), (7, ⟨1, true, true, .cells 11 [tc (s.1.2, (gp p i).2)]⟩)]⟩)
   (fun s => 8 - s.1.1) ⟨(0, (gp p i).1), Nat.zero_le _, fun j h => absurd h (Nat.not_lt_zero _), fun _ _ => rfl⟩ (by first | rfl | simp [tc, qc]) ?_
  rintro ⟨⟨v, x⟩, hv, hm1, hm2⟩
  simp only at hv hm1 hm2
  refine wk0 ?_
  refine condK.dec (fun h5 => ?_) (fun h5 => ?_)
  ·have h1 := g1.g v
   have h2 := ht.g v
   have h3 := hm2 v (Nat.le_refl _)
   simp only at h2
   have h4 : IntKind.i64.wrap (x.g v + m.g v) = (gp p i).1.g v + m.g v := by rw [h3]; exact w64 (by omega)
   refine wk1 @h4 ?_
   refine vcalm (by kernel_rfl) ?_
   refine wk1 @h4 ?_
   refine ⟨⟨(v + 1, x.set v ((gp p i).1.g v + m.g v)), by omega, fun j hj => ?_, fun j hj => ?_⟩, (by first | rfl | simp [tc, qc]), by simp only; omega⟩
   ·simp only at hj ⊢
    rw [Mo.g_set _ _ _ _ (by omega)]
    by_cases e : v = j
    ·subst e; rw [if_pos rfl]
    ·rw [if_neg e, hm1 j (by omega)]
   ·simp only at hj ⊢
    rw [Mo.g_set _ _ _ _ (by omega), if_neg (by omega), hm2 j (by omega)]
  ·have hv8 : v = 8 := by omega
   subst hv8
   have e : x = (gp p i).1.add m := Mo.ext_g fun j h => by rw [hm1 j h, Mo.g_add _ _ _ h]
   subst e
   refine wk0 ?_
   refine callI (c_RMulq _ _ g2 hq) ?_
   simp only at g3 ⊢
   generalize (gp p i).2 * c = r at *
   refine wk1 @qr.eq_1 ?_
   refine callI (c_Signq r g3) ?_
   refine wk1 @qr.eq_1 ?_
   refine condK.dec (fun h7 => ?_) (fun h7 => ?_)
   ·have hr0 : r ≠ 0 := fun h => h7 (sgn_zero.2 h)
    rw [if_neg hr0] at hpt
    refine wk0 ?_
    refine ⟨⟨i + 1, by omega⟩, ?_, by simp only; omega⟩
    simp only [hpt]
    exact (by first | rfl | simp [tc, qc])
   ·have hr0 : r = 0 := sgn_zero.1 (Classical.not_not.1 h7)
    rw [if_pos hr0] at hpt
    refine wk0 ?_
    refine ⟨⟨i + 1, by omega⟩, ?_, by simp only; omega⟩
    simp only [hpt]
    exact (by first | rfl | simp [tc, qc])
 ·have hip : i = p.length := by omega
  subst hip
  rw [List.take_length]
  refine wk0 ?_
  exact ⟨Nat.le_refl _, trivial⟩
end Go.Proofs.YteipiejlljnclaaGreatDoor
end
section
namespace Go.Proofs.YteipiejlljnclaaGreatDoor
open Go Go.AL
attribute [local irreducible] run opK opD callK
theorem lgt_add : ∀ {a b c : List Int}, a.length = c.length → b.length = c.length → lgt (List.zipWith (· + ·) a c) (List.zipWith (· + ·) b c) = lgt a b
 | [], [], [], _, _ => rfl
 | [], _ :: _, [], _, h => by simp at h
 | [], _, _ :: _, h, _ => by simp at h
 | _ :: _, _, [], h, _ => by simp at h
 | _ :: _, [], _ :: _, _, h => by simp at h
 | x :: a, y :: b, z :: c, h1, h2 => by
  simp only [List.zipWith_cons_cons, lgt]
  rw [lgt_add (by simpa using h1) (by simpa using h2)]
  by_cases e : x = y
  ·rw [if_pos e, if_pos (by omega)]
  ·rw [if_neg e, if_neg (by omega)]
   exact decide_eq_decide.2 (by omega)
theorem mgt_add (a b c : Mo) : mgt (a.add c) (b.add c) = mgt a b := lgt_add (by rw [a.h, c.h]) (by rw [b.h, c.h])
theorem ptimes_L (p : List Tm) (t : Tm) (F : Mo → Rat) : L (ptimes p t) F = L p fun a => t.2 * F (a.add t.1) := by
 induction p with
 | nil => rfl
 | cons s p ih =>
  have e : ptimes (s :: p) t = if s.2 * t.2 = 0 then ptimes p t else (s.1.add t.1, s.2 * t.2) :: ptimes p t := by
   unfold ptimes
   rw [List.map_cons, List.filter_cons]
   by_cases h : s.2 * t.2 = 0 <;> simp [h]
  rw [e, L_cons]
  split
  ·rename_i h; rw [ih, ← Rat.mul_assoc, h, Rat.zero_mul, Rat.zero_add]
  ·rw [L_cons, ih, Rat.mul_assoc]
theorem ptimes_Cn {p : List Tm} (hp : Cn p) (t : Tm) : Cn (ptimes p t) := by
 refine ⟨?_, fun s hs => ?_⟩
 ·unfold ptimes
  refine List.Pairwise.filter _ (List.pairwise_map.2 (hp.1.imp fun {a b} h => ?_))
  rw [mgt_add]; exact h
 ·unfold ptimes at hs
  have := (List.mem_filter.1 hs).2
  simpa using this
theorem ptimes_const {p : List Tm} (hp : Cn p) (r : Rat) : ptimes p (Mo.zero, r) = pmul p (pconst r) := (ptimes_Cn hp _).ext (pmul_Cn _ _) fun F => by
 rw [ptimes_L, pmul_L]
 congr 1
 funext a
 rw [pconst_L]
theorem Mo.zero_ok : Mo.zero.ok := fun x hx => by
 unfold Mo.zero at hx
 simp at hx
 omega
theorem c_Number (p : List Tm) (r : Rat) (hc : Cn p) (hp : ∀ s ∈ p, s.1.ok ∧ Qz s.2 ∧ Qz (s.2 * r)) (hq : Qz r) (hl : p.length < 549755813888) : CT 36 [pdat p, .data (qr r)]
  {val := .sl 11 (ps (pmul p (pconst r))), args := [pdat p, .data (qr r)] } := by
 rw [← ptimes_const hc]
 refine Ctr.intro ⟨Tryz.f36, _, Tryz.call36, Tryz.func36, fold_body (by rfl) (by kernel_rfl), (by simp [Tryz.ntmps36]), (by simp), (by kernel_rfl), ?_⟩
 refine wks ?_
 refine wk1 @qr.eq_1 ?_
 refine callI (c_Times p (Mo.zero, r) hp Mo.zero_ok hq hl) ?_
 refine wk0 ?_
 trivial
theorem ql_small {n : Nat} (h : n < 18446744073709551616) : Ql (limbs n) := ⟨lim_limbs _, by
 have hp2 : pw 2 = 18446744073709551616 := by decide
 have := limbs_len_le (n := n) (k := 2) (by omega)
 omega⟩
theorem Qz.small {q : Rat} (h : q.num.natAbs < 18446744073709551616) (h' : q.den < 18446744073709551616) : Qz q := ⟨ql_small h, ql_small h'⟩
theorem pconst_one : pconst 1 = pone := by unfold pconst pone; rw [if_neg (by decide)]
theorem c_One : CT 23 [] { val := .sl 11 (ps pone), args := [] } := by
 refine Ctr.intro ⟨Tryz.f23, _, Tryz.call23, Tryz.func23, fold_body (by rfl) (by kernel_rfl), (by simp [Tryz.ntmps23]), (by simp), (by kernel_rfl), ?_⟩
 refine wks ?_
 refine wk0 ?_
 refine callI (c_Int2 1 (by decide)) ?_
 refine wk1 @qr.eq_1 ?_
 refine callI (c_Const ((1 : Int) : Rat) (Qz.small (by decide) (by decide))) ?_
 refine wk0 ?_
 have e : ((1 : Int) : Rat) = 1 := rfl
 rw [e, pconst_one]
 trivial
def pneg (q : List Tm) : List Tm := pmul q (pconst (-1))
theorem c_Minus (p q : List Tm) (D M M' : Nat) (hp : Cn p) (hq : Cn q) (h1 : PB D M p) (h2 : PB D M' (pneg q)) (hf : Fit D (M + M')) (hqq : ∀ s ∈ q, s.1.ok ∧ Qz s.2 ∧ Qz (s.2 * (-1 : Rat))) (hl : p.length + q.length < 549755813888) : CT 89 [pdat p, pdat q]
  {val := .sl 11 (ps (padd p (pneg q))), args := [pdat p, pdat q] } := by
 have hlen : (pneg q).length ≤ q.length := by
  rw [pneg, ← ptimes_const hq]; exact ptimes_length _ _
 refine Ctr.intro ⟨Tryz.f89, _, Tryz.call89, Tryz.func89, fold_body (by rfl) (by kernel_rfl), (by simp [Tryz.ntmps89]), (by simp), (by kernel_rfl), ?_⟩
 refine wks ?_
 refine wk0 ?_
 refine callI (c_Int2 (-1) (by decide)) ?_
 have e : ((-1 : Int) : Rat) = -1 := rfl
 rw [e]
 refine wk1 @qr.eq_1 ?_
 refine callI (c_Number q (-1) hq hqq (Qz.small (by decide) (by decide)) (by omega)) ?_
 refine wk0 ?_
 refine callI (c_Sum p (pneg q) D M M' hp h1 h2 hf (by omega)) ?_
 refine wk0 ?_
 trivial
end Go.Proofs.YteipiejlljnclaaGreatDoor
end
section
namespace Go.Proofs.YteipiejlljnclaaGreatDoor
open Go Go.AL
attribute [local irreducible] run opK opD callK
theorem c_Samep (p q : List Tm) (hp : ∀ s ∈ p, Qz s.2) (hq : ∀ s ∈ q, Qz s.2) (lp : p.length < 549755813888) (lq : q.length < 549755813888) : CT 19 [pdat p, pdat q]
  {val := bv (decide (p = q)), args := [pdat p, pdat q] } := by
 refine Ctr.intro ⟨Tryz.f19, _, Tryz.call19, Tryz.func19, fold_body (by rfl) (by kernel_rfl), (by simp [Tryz.ntmps19]), (by simp), (by kernel_rfl), ?_⟩
 refine wks ?_
 refine wk0 ?_
 refine condK.dec (fun h1 => ?_) (fun h1 => ?_)
 ·have hne : ¬ p = q := fun h => h1 (by rw [h])
  refine wk1 @hne ?_
  exact ⟨by simp, trivial⟩
 ·refine wk0 ?_
  refine run_loop [0, 1, 5] [] (α := {i : Nat // i ≤ p.length ∧ p.take i = q.take i}) (fun i => ⟨[(0, .sl 11 (ps p)), (1, .sl 11 (ps q)), (5, iv .i64 i.1)], []⟩) (fun i => p.length - i.1) ⟨0, Nat.zero_le _, by simp⟩ rfl ?_
  rintro ⟨i, hi, hv⟩
  have ab : p.length = q.length := by omega
  refine wk0 ?_
  refine condK.dec (fun h2 => ?_) (fun h2 => ?_)
  ·have hip : i < p.length := by omega
   have hiq : i < q.length := by omega
   have hnext : gp p i = gp q i → p.take (i + 1) = q.take (i + 1) := fun e => by rw [gp_take hip, gp_take hiq, hv, e]
   have hdiff : ¬ gp p i = gp q i → ¬ p = q := fun e h => e (by rw [h])
   have a1 := hp _ (gp_mem hip)
   have a2 := hq _ (gp_mem hiq)
   clear hp hq hv
   refine wk0 ?_
   by_cases hm : (gp p i).1 = (gp q i).1
   ·have hd : decide ((gp p i).1 = (gp q i).1) = true := decide_eq_true hm
    refine wk2 @hd @Bool.not_true ?_
    refine callI (c_Same2q _ _ a1 a2) ?_
    by_cases hc : (gp p i).2 = (gp q i).2
    ·rw [decide_eq_true hc]
     refine wk2 @hd @Bool.not_true ?_
     refine vcalm (by kernel_rfl) ?_
     refine wk0 ?_
     exact ⟨⟨i + 1, by omega, hnext (Prod.ext hm hc)⟩, rfl, by simp only; omega⟩
    ·rw [decide_eq_false hc]
     refine wk3 @hd @Bool.not_true @Bool.not_false ?_
     refine vcalm (by kernel_rfl) ?_
     refine wk0 ?_
     have hne := hdiff (fun e => hc (by rw [e]))
     exact ⟨by rw [decide_eq_false hne], trivial⟩
   ·have hd : decide ((gp p i).1 = (gp q i).1) = false := decide_eq_false hm
    refine wk2 @hd @Bool.not_false ?_
    refine vcalm (by kernel_rfl) ?_
    refine wk0 ?_
    have hne := hdiff (fun e => hm (by rw [e]))
    exact ⟨by rw [decide_eq_false hne], trivial⟩
  ·have heq : p = q := by
    rw [List.take_of_length_le (by omega), List.take_of_length_le (by omega)] at hv
    exact hv
   refine wk1 @heq ?_
   trivial
theorem c_Var (v : Nat) (hv : v < 8) : CT 88 [.data (iv .i64 v)] { val := .tup [.sl 11 (ps [(Mo.zero.set v 1, 1)]), iv .i64 0], args := [.data (iv .i64 v)] } := by
 have e : ((1 : Int) : Rat) = 1 := rfl
 refine Ctr.intro ⟨Tryz.f88, _, Tryz.call88, Tryz.func88, fold_body (by rfl) (by kernel_rfl), (by simp [Tryz.ntmps88]), (by simp), (by kernel_rfl), ?_⟩
 refine wks ?_
 refine wk0 ?_
 refine callI (c_Int2 1 (by decide)) ?_
 rw [e]
 refine wk1 @qr.eq_1 ?_
 exact ⟨rfl, trivial⟩
end Go.Proofs.YteipiejlljnclaaGreatDoor
end
