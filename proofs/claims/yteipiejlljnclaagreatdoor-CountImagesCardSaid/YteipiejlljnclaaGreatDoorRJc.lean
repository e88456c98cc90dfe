/- polynomial/sparse: Const, Clone, Add, Mul; polynomial.Const. Conditions stand in each. -/
import Derived.Test.YteipiejlljnclaaGreatDoorRJa
set_option linter.unusedVariables false
set_option linter.unusedSimpArgs false
set_option maxRecDepth 10000
set_option maxHeartbeats 8000000
section
namespace Go.Proofs.YteipiejlljnclaaGreatDoor
open Go Go.AL
attribute [local irreducible] run opK opD callK
attribute [local simp] keep keepEnv keepRows keepAV keepPl keepBody keepElems keepElem keepCells lget inL normG mc_keep mc_keep0
theorem c_ConstS (r : Rat) (hr : Qz r) : CT 91 [.data (qr r)] { val := .sl 11 (ps (pconst r)), args := [.data (qr r)] } := by
 have hd : r.den ∣ r.den := Nat.dvd_refl _
 have hb := PB.one (t := (Mo.zero, r)) r.den_pos hd
 have hsc : sc r.den r = r.num := by unfold sc; rw [Nat.div_self r.den_pos]; simp
 have hf : Fit r.den (sc r.den r).natAbs := ⟨hr.d, by rw [hsc]; exact hr.n⟩
 have key := c_Collect [(Mo.zero, r)] _ _ hb hf (by simp)
 rw [nf_one] at key
 clear hb hf hsc hd
 refine Ctr.intro ⟨Tryz.f91, _, Tryz.call91, Tryz.func91, fold_body (by rfl) (by kernel_rfl), (by simp [Tryz.ntmps91]), (by simp), (by kernel_rfl), ?_⟩
 refine wks ?_
 refine wk1 @qr.eq_1 ?_
 refine callI (key) ?_
 refine wk0 ?_
 trivial
theorem c_ConstP (r : Rat) (hr : Qz r) : CT 43 [.data (qr r)] { val := .sl 11 (ps (pconst r)), args := [.data (qr r)] } := by
 have key := c_ConstS r hr
 refine Ctr.intro ⟨Tryz.f43, _, Tryz.call43, Tryz.func43, fold_body (by rfl) (by kernel_rfl), (by simp [Tryz.ntmps43]), (by simp), (by kernel_rfl), ?_⟩
 refine wks ?_
 refine wk1 @qr.eq_1 ?_
 refine callI (key) ?_
 refine wk0 ?_
 trivial
theorem c_CloneP (p : List Tm) (hl : p.length < 549755813888) : CT 98 [pdat p] { val := .hs ⟨0, 0⟩ 0 p.length, new := [.slc (.cells 11 (ps p))], args := [pdat p] } := by
 refine Ctr.intro ⟨Tryz.f98, _, Tryz.call98, Tryz.func98, fold_body (by rfl) (by kernel_rfl), (by simp [Tryz.ntmps98]), (by simp), (by kernel_rfl), ?_⟩
 refine wks ?_
 by_cases h0 : p = []
 ·subst h0
  refine wk2 @ps_nil @List.length_nil.{0} ?_
  intro b
  cases b
  ·refine wk2 @ps_nil @List.length_nil.{0} ?_
   simp [memOut, memKeys, outOK, lget, VC]
  ·refine wk2 @ps_nil @List.length_nil.{0} ?_
   simp [memOut, memKeys, outOK, lget, VC]
 ·have h1 : ¬ p.length = 0 := fun h => h0 (List.eq_nil_of_length_eq_zero h)
  refine wk1 @h1 ?_
  simp [memOut, memKeys, outOK, lget, VC]
theorem c_AddS (p q : List Tm) (D M M' : Nat) (h1 : PB D M p) (h2 : PB D M' q) (hf : Fit D (M + M')) (hl : p.length + q.length < 549755813888) : CT 46 [pdat p, pdat q] { val := .sl 11 (ps (padd p q)), args := [pdat p, pdat q] } := by
 have key := c_Collect (p ++ q) D (M + M') (h1.append h2) hf (by rw [List.length_append]; exact hl)
 have hc := c_CloneP p (by omega)
 have ht : List.take (p.length + q.length) (p ++ q) = p ++ q := List.take_of_length_le (by simp)
 refine Ctr.intro ⟨Tryz.f46, _, Tryz.call46, Tryz.func46, fold_body (by rfl) (by kernel_rfl), (by simp [Tryz.ntmps46]), (by simp), (by kernel_rfl), ?_⟩
 refine wks ?_
 refine wk0 ?_
 refine callI (hc) ?_
 refine wk1 @ht ?_
 refine callI (key) ?_
 refine wk0 ?_
 trivial
def prd (p q : List Tm) (i j : Nat) : List Tm := prods (p.take i) q ++ (q.take j).map fun t => ((gp p i).1.add t.1, (gp p i).2 * t.2)
theorem prd_zero (p q : List Tm) : prd p q 0 0 = [] := by simp [prd, prods]
theorem prd_row (p q : List Tm) {i j : Nat} (h : j < q.length) : prd p q i (j + 1) = prd p q i j ++ [((gp p i).1.add (gp q j).1, (gp p i).2 * (gp q j).2)] := by
 unfold prd
 rw [gp_take h, List.map_append, List.append_assoc]; rfl
theorem prd_next (p q : List Tm) {i : Nat} (h : i < p.length) : prd p q (i + 1) 0 = prd p q i q.length := by
 unfold prd
 rw [gp_take h, List.take_zero, List.map_nil, List.append_nil, List.take_length]
 simp [prods]
theorem prd_end (p q : List Tm) : prd p q p.length 0 = prods p q := by simp [prd]
theorem prods_len (p q : List Tm) : (prods p q).length = p.length * q.length := by
 induction p with
 | nil => simp [prods]
 | cons s p ih =>
  have : prods (s :: p) q = (q.map fun t => (s.1.add t.1, s.2 * t.2)) ++ prods p q := by simp [prods]
  rw [this, List.length_append, ih, List.length_map, List.length_cons, Nat.add_mul, Nat.one_mul, Nat.add_comm]
theorem prd_len (p q : List Tm) {i j : Nat} (hi : i ≤ p.length) (hj : j ≤ q.length) : (prd p q i j).length = i * q.length + j := by
 unfold prd
 rw [List.length_append, prods_len, List.length_map, List.length_take, List.length_take, Nat.min_eq_left hi, Nat.min_eq_left hj]
theorem c_MulS (p q : List Tm) (D E M N : Nat) (h1 : PB D M p) (h2 : PB E N q) (hf1 : Fit D M) (hf2 : Fit E N) (hf : Fit (D * E) (M * N)) (o1 : ∀ t ∈ p, t.1.ok) (o2 : ∀ t ∈ q, t.1.ok) (hl : p.length * q.length < 549755813888) (hl1 : p.length < 549755813888) (hl2 : q.length < 549755813888) :
  CT 47 [pdat p, pdat q] { val := .sl 11 (ps (pmul p q)), args := [pdat p, pdat q] } := by
 have key := c_Collect (prods p q) _ _ (h1.prods h2) hf (by rw [prods_len]; exact hl)
 have hm : (p.length : Int) * (q.length : Int) = ((p.length * q.length : Nat) : Int) := by rw [Int.natCast_mul]
 refine Ctr.intro ⟨Tryz.f47, _, Tryz.call47, Tryz.func47, fold_body (by rfl) (by kernel_rfl), (by simp [Tryz.ntmps47]), (by simp), (by kernel_rfl), ?_⟩
 refine wks ?_
 refine wk1 @hm ?_
 refine run_loop [0, 1, 5, 16, 17, 18] [15] (α := {i : Nat // i ≤ p.length})
  (fun i => ⟨[(0, .sl 11 (ps p)), (1, .sl 11 (ps q)), (5, .hs ⟨15, 1⟩ 0 (prd p q i.1 0).length), (16, .sl 11 (ps p)), (17, iv .i64 p.length), (18, iv .i64 i.1)], [(15, ⟨1, true, false, .cells 11 (ps (prd p q i.1 0))⟩)]⟩)
  (fun i => p.length - i.1) ⟨0, Nat.zero_le _⟩ (by simp only [prd_zero]; exact (by first | rfl | simp [tc, qc])) ?_
 rintro ⟨i, hi⟩
 refine wk0 ?_
 refine condK.dec (fun h => ?_) (fun h => ?_)
 ·have hip : i < p.length := by omega
  have hpo := o1 _ (gp_mem hip)
  have hpq := h1.qz hf1 (gp_mem hip)
  refine wk0 ?_
  refine run_loop [0, 1, 5, 7, 16, 17, 18, 22, 23, 24] [7, 15] (α := {j : Nat // j ≤ q.length})
   (fun j => ⟨[(0, .sl 11 (ps p)), (1, .sl 11 (ps q)), (5, .hs ⟨15, 1⟩ 0 (prd p q i j.1).length), (7, .hp ⟨7, 1⟩ 0 0), (16, .sl 11 (ps p)), (17, iv .i64 p.length), (18, iv .i64 i), (22, .sl 11 (ps q)), (23, iv .i64 q.length), (24, iv .i64 j.1)], [(7, ⟨1, true, true, .cells 11 [tc (gp p i)]⟩), (15, ⟨1, true, false, .cells 11 (ps (prd p q i j.1))⟩)]⟩)
   (fun j => q.length - j.1) ⟨0, Nat.zero_le _⟩ (by first | rfl | simp [tc, qc]) ?_
  rintro ⟨j, hj⟩
  have hpl := prd_len p q hi hj
  refine wk0 ?_
  refine condK.dec (fun h' => ?_) (fun h' => ?_)
  ·have hjq : j < q.length := by omega
   have hr := prd_row p q (i := i) hjq
   have hqo := o2 _ (gp_mem hjq)
   have hqq := h2.qz hf2 (gp_mem hjq)
   have hct := c_times _ _ hpo hqo
   have hcm := c_MulQ _ _ hpq hqq
   have hbd : i * q.length + j < 549755813888 := by
    have : (i + 1) * q.length ≤ p.length * q.length := Nat.mul_le_mul_right _ (by omega)
    rw [Nat.add_mul, Nat.one_mul] at this
    omega
   have hbd2 : (prd p q i j).length < 549755813888 := by omega
   generalize prd p q i j = R at *
   generalize (gp p i).2 * (gp q j).2 = r at *
   clear hpl hbd
   refine wk0 ?_
   refine callI (hct) ?_
   refine wk0 ?_
   refine callI (hcm) ?_
   refine wk1 @qr.eq_1 ?_
   refine vcalm (by kernel_rfl) ?_
   refine wk1 @qr.eq_1 ?_
   refine ⟨⟨j + 1, by omega⟩, ?_, by simp only; omega⟩
   simp only [hr, List.length_append, List.length_cons, List.length_nil]
   exact (by first | rfl | simp [tc, qc])
  ·have hjq : j = q.length := by omega
   subst hjq
   have hn := prd_next p q hip
   rw [← hn]
   refine wk0 ?_
   exact ⟨⟨i + 1, by omega⟩, (by first | rfl | simp [tc, qc]), by simp only; omega⟩
 ·have hip : i = p.length := by omega
  subst hip
  rw [prd_end]
  have hpl := prods_len p q
  refine wk0 ?_
  refine callI (key) ?_
  refine wk0 ?_
  trivial
end Go.Proofs.YteipiejlljnclaaGreatDoor
end
section
namespace Go.Proofs.YteipiejlljnclaaGreatDoor
open Go Go.AL
attribute [local irreducible] run opK opD callK
attribute [local simp] keep keepEnv keepRows keepAV keepPl keepBody keepElems keepElem keepCells lget inL normG mc_keep mc_keep0
def Mo.vd (m : Mo) : Prop := ∀ i, i < 8 → 0 ≤ m.g i ∧ m.g i ≤ 1024
theorem c_valid (p : List Tm) (hv : ∀ t ∈ p, t.1.vd) (hl : p.length < 549755813888) : CT 95 [pdat p] { val := bv true, args := [pdat p] } := by
 refine Ctr.intro ⟨Tryz.f95, _, Tryz.call95, Tryz.func95, fold_body (by rfl) (by kernel_rfl), (by simp [Tryz.ntmps95]), (by simp), (by kernel_rfl), ?_⟩
 refine wks ?_
 refine wk0 ?_
 refine run_loop [7, 8, 9] [] (α := {i : Nat // i ≤ p.length}) (fun i => ⟨[(7, .sl 11 (ps p)), (8, iv .i64 p.length), (9, iv .i64 i.1)], []⟩) (fun i => p.length - i.1) ⟨0, Nat.zero_le _⟩ (by first | rfl | simp [tc, qc]) ?_
 rintro ⟨i, hi⟩
 refine wk0 ?_
 refine condK.dec (fun h => ?_) (fun h => ?_)
 ·have hip : i < p.length := by omega
  have hg := hv _ (gp_mem hip)
  refine wk0 ?_
  refine run_loop [7, 8, 9, 14, 15] [] (α := {j : Nat // j ≤ 8}) (fun j => ⟨[(7, .sl 11 (ps p)), (8, iv .i64 p.length), (9, iv .i64 i), (14, .agg (mc (gp p i).1)), (15, iv .i64 j.1)], []⟩) (fun j => 8 - j.1) ⟨0, Nat.zero_le _⟩ (by first | rfl | simp [tc, qc]) ?_
  rintro ⟨j, hj⟩
  refine wk0 ?_
  refine condK.dec (fun h' => ?_) (fun h' => ?_)
  ·have hb := hg j (by omega)
   have d1 : decide ((gp p i).1.g j < 0) = false := decide_eq_false (by omega)
   have d2 : decide ((1024 : Int) < (gp p i).1.g j) = false := decide_eq_false (by omega)
   refine wk2 @d1 @d2 ?_
   exact ⟨⟨j + 1, by omega⟩, (by first | rfl | simp [tc, qc]), by simp only; omega⟩
  ·refine wk0 ?_
   exact ⟨⟨i + 1, by omega⟩, (by first | rfl | simp [tc, qc]), by simp only; omega⟩
 ·refine wk0 ?_
  simp [VC]
def entQ (o : List Tm) : List (AV × AV) := o.map fun t => (.agg (mc t.1), .agg (qc t.2))
def mcs (l : List Mo) : List AV := l.map fun m => .agg (mc m)
theorem ms_cons (s : Tm) (o : List Tm) : ms (s :: o) = s.1 :: ms o := rfl
theorem entQ_cons (s : Tm) (o : List Tm) : entQ (s :: o) = (.agg (mc s.1), .agg (qc s.2)) :: entQ o := rfl
theorem gp_succ (s : Tm) (o : List Tm) (i : Nat) : gp (s :: o) (i + 1) = gp o i := by simp [gp]
theorem gp_zero (s : Tm) (o : List Tm) : gp (s :: o) 0 = s := by simp [gp]
theorem mget_entQ (m : Mo) (o : List Tm) : mget (.agg (mc m)) (entQ o) = if m ∈ ms o then some (.agg (qc (gp o ((ms o).idxOf m)).2)) else none := by
 induction o with
 | nil => rfl
 | cons s o ih =>
  rw [entQ_cons, mget, mc_keyEq, ih, ms_cons, List.idxOf_cons]
  by_cases e : m = s.1
  ·subst e; simp [gp_zero]
  ·have e' : ¬ s.1 = m := fun h => e h.symm
   rw [if_neg (by simpa using e), show (s.1 == m) = false by simpa using e', cond_false, gp_succ]
   by_cases hm : m ∈ ms o
   ·rw [if_pos hm, if_pos (.tail _ hm)]
   ·rw [if_neg hm, if_neg fun h => (List.mem_cons.1 h).elim e hm]
theorem mset_entQ (t : Tm) (o : List Tm) {q : Rat} (hq : q = (if t.1 ∈ ms o then (gp o ((ms o).idxOf t.1)).2 else 0) + t.2) : mset (.agg (mc t.1)) (.agg (qc q)) (entQ o) = entQ (col o t) := by
 subst hq
 induction o with
 | nil =>
  have e : ms [] = [] := rfl
  rw [e, if_neg (by simp), Rat.zero_add]; rfl
 | cons s o ih =>
  rw [entQ_cons, mset, mc_keyEq, ms_cons, List.idxOf_cons, col]
  by_cases e : t.1 = s.1
  ·rw [if_pos (by simpa using e), if_pos e.symm, entQ_cons, if_pos (by rw [e]; exact .head _), show (s.1 == t.1) = true by simpa using e.symm, cond_true, gp_zero]
  ·have e' : ¬ s.1 = t.1 := fun h => e h.symm
   rw [if_neg (by simpa using e), if_neg e', entQ_cons, ← ih, show (s.1 == t.1) = false by simpa using e', cond_false, gp_succ]
   by_cases hm : t.1 ∈ ms o
   ·rw [if_pos hm, if_pos (.tail _ hm)]
   ·rw [if_neg hm, if_neg fun h => (List.mem_cons.1 h).elim e hm]
theorem mcs_len (l : List Mo) : (mcs l).length = l.length := by simp [mcs]
theorem mcs_snoc (l : List Mo) (m : Mo) : mcs l ++ [.agg (mc m)] = mcs (l ++ [m]) := by simp [mcs]
theorem mcs_at (o : List Tm) {i : Nat} (h : i < o.length) : at_ (mcs (ms o)) i = .agg (mc (gp o i).1) := by
 simp [at_, mcs, ms, gp, List.getD, h]
theorem idx_gp {o : List Tm} (hn : (ms o).Nodup) {i : Nat} (h : i < o.length) : (gp o i).1 ∈ ms o ∧ (ms o).idxOf (gp o i).1 = i := by
 have e : (gp o i).1 = (ms o)[i]'(by rw [ms_len]; exact h) := by simp [gp, List.getD, h, ms]
 rw [e]
 exact ⟨List.getElem_mem _, List.Nodup.idxOf_getElem hn i _⟩
theorem ratOf_zero : ratOf false [] [] = 0 := by unfold ratOf; simp [sg, val]
theorem c_AddZ (y : Rat) (hy : Qz y) : CT 162 [.data (fr false [] []), .data (qr y)] { val := qr y, args := [.data (fr false [] []), .data (qr y)] } := by
 have := c_RAdd false (decide (y.num < 0)) [] [] _ _ Ql.nil Ql.nil hy.n hy.d
 rwa [ratOf_qr, ratOf_zero, Rat.zero_add] at this
theorem c_normal (p : List Tm) (D M : Nat) (h : PB D M p) (hf : Fit D M) (hl : p.length < 549755813888) : CT 96 [pdat p] { val := .sl 11 (ps (nf p)), args := [pdat p] } := by
 refine Ctr.intro ⟨Tryz.f96, _, Tryz.call96, Tryz.func96, fold_body (by rfl) (by kernel_rfl), (by simp [Tryz.ntmps96]), (by simp), (by kernel_rfl), ?_⟩
 refine wks ?_
 refine wk0 ?_
 refine run_loop [3, 4, 13, 14, 15] [4, 12] (α := {i : Nat // i ≤ p.length})
  (fun i => ⟨[(3, .hm ⟨12, 1⟩), (4, .hs ⟨4, 1⟩ 0 ((p.take i.1).foldl col []).length), (13, .sl 11 (ps p)), (14, iv .i64 p.length), (15, iv .i64 i.1)],
   [(4, ⟨1, true, false, .cells 8 (mcs (ms ((p.take i.1).foldl col [])))⟩), (12, ⟨1, true, false, .map (.arr 8 .i64) (entQ ((p.take i.1).foldl col []))⟩)]⟩)
  (fun i => p.length - i.1) ⟨0, Nat.zero_le _⟩ (by first | rfl | simp [tc, qc]) ?_
 rintro ⟨i, hi⟩
 have n2 := nrm_take_le (D := D) p i
 have n3 := h.le
 have hout := colF_PB (PB.nil (M := 0) h.pos) (h.take i)
 have hlen := colF_len (p.take i) []
 rw [List.length_take] at hlen
 simp only [List.length_nil] at hlen
 have hnd := colF_nodup (p.take i) (o := []) (by simp [ms])
 have hq : ∀ t ∈ (p.take i).foldl col [], Qz t.2 := fun t ht => hout.qz (hf.le (by omega)) ht
 clear hout n2 n3
 refine wk0 ?_
 refine condK.dec (fun hc => ?_) (fun hc => ?_)
 ·have hil : i < p.length := by omega
  have hs := foldl_col_succ hil
  have hqi := h.qz hf (gp_mem hil)
  have hml := ms_len ((p.take i).foldl col [])
  have hkl := mcs_len (ms ((p.take i).foldl col []))
  generalize (p.take i).foldl col [] = o at *
  rw [hml] at hkl
  by_cases hm : (gp p i).1 ∈ ms o
  ·obtain ⟨h1, h2, h3⟩ := col_old hm
   have hg := mget_entQ (gp p i).1 o
   rw [if_pos hm] at hg
   have hms : ms (col o (gp p i)) = ms o := by rw [col_ms, if_pos hm]
   have hln : (col o (gp p i)).length = o.length := by rw [← ms_len, hms, ms_len]
   have hst := mset_entQ (gp p i) o (q := (gp o ((ms o).idxOf (gp p i).1)).2 + (gp p i).2) (by rw [if_pos hm])
   have hadd := c_AddQ _ _ (hq _ (gp_mem h1)) hqi
   clear hq hqi hm h2 h3
   generalize (ms o).idxOf (gp p i).1 = k at *
   generalize (gp o k).2 + (gp p i).2 = r at *
   simp only [qc] at hg hst
   refine wk1 @hg ?_
   refine callI (hadd) ?_
   refine wk2 @qr.eq_1 @hst ?_
   refine vcalm (by kernel_rfl) ?_
   refine wk2 @qr.eq_1 @hst ?_
   refine ⟨⟨i + 1, by omega⟩, ?_, by simp only; omega⟩
   simp only [hs, hms, hln]
   exact (by first | rfl | simp [tc, qc])
  ·have hg := mget_entQ (gp p i).1 o
   rw [if_neg hm] at hg
   have hms : ms (col o (gp p i)) = ms o ++ [(gp p i).1] := by rw [col_ms, if_neg hm]
   have hln : (col o (gp p i)).length = o.length + 1 := by rw [col_new hm]; simp
   have hst := mset_entQ (gp p i) o (q := (gp p i).2) (by rw [if_neg hm, Rat.zero_add])
   have hadd := c_AddZ _ hqi
   have htk : (mcs (ms o)).take o.length = mcs (ms o) := List.take_of_length_le (by omega)
   clear hq hqi hm
   simp only [qc] at hst
   refine wk1 @hg ?_
   refine callI (hadd) ?_
   refine wk2 @qr.eq_1 @hst ?_
   refine vcalm (by kernel_rfl) ?_
   refine wk4 @qr.eq_1 @hst @htk @mcs_snoc ?_
   refine ⟨⟨i + 1, by omega⟩, ?_, by simp only; omega⟩
   simp only [hs, hms, hln]
   exact (by first | rfl | simp [tc, qc])
 ·have hil : i = p.length := by omega
  subst hil
  rw [List.take_length] at hlen hq hnd ⊢
  obtain ⟨g1, g2⟩ := col_good p
  have g3 := col_nf p
  have g4 := nf_len g1 g2
  unfold colL at g1 g2 g3 g4
  have hml := ms_len (p.foldl col [])
  have hkl := mcs_len (ms (p.foldl col []))
  generalize p.foldl col [] = o at *
  rw [hml] at hkl
  refine wk0 ?_
  refine run_loop [3, 9, 44, 45, 46] [4, 9, 12] (α := {j : Nat // j ≤ o.length})
   (fun j => ⟨[(3, .hm ⟨12, 1⟩), (9, .hs ⟨9, 1⟩ 0 ((o.take j.1).filter nz).length), (44, .hs ⟨4, 1⟩ 0 o.length), (45, iv .i64 o.length), (46, iv .i64 j.1)],
    [(4, ⟨1, true, false, .cells 8 (mcs (ms o))⟩), (9, ⟨1, true, false, .cells 11 (ps ((o.take j.1).filter nz))⟩), (12, ⟨1, true, false, .map (.arr 8 .i64) (entQ o)⟩)]⟩)
   (fun j => o.length - j.1) ⟨0, Nat.zero_le _⟩ (by first | rfl | simp [tc, qc]) ?_
  rintro ⟨j, hj⟩
  refine wk0 ?_
  refine condK.dec (fun hc2 => ?_) (fun hc2 => ?_)
  ·have hjo : j < o.length := by omega
   obtain ⟨hi1, hi2⟩ := idx_gp hnd hjo
   have hg := mget_entQ (gp o j).1 o
   rw [if_pos hi1, hi2] at hg
   have hat := mcs_at o hjo
   have hsg := c_SignQ _ (hq _ (gp_mem hjo))
   have hft := filter_take_succ hjo
   have hfl : ((o.take j).filter nz).length ≤ o.length := Nat.le_trans (List.length_filter_le _ _) (by rw [List.length_take]; omega)
   have hz := sgn_zero (q := (gp o j).2)
   generalize (o.take j).filter nz = F at *
   clear hi1 hi2 hq hnd g1 g2 g3 g4
   simp only [qc] at hg
   refine wk2 @hat @hg ?_
   refine callI (hsg) ?_
   refine wk0 ?_
   refine condK.dec (fun hz2 => ?_) (fun hz2 => ?_)
   ·rw [if_neg fun e => hz2 (hz.2 e)] at hft
    refine wk2 @hat @hg ?_
    refine vcalm (by kernel_rfl) ?_
    refine wk2 @hat @hg ?_
    refine ⟨⟨j + 1, by omega⟩, ?_, by simp only; omega⟩
    simp only [hft, List.length_append, List.length_cons, List.length_nil]
    exact (by first | rfl | simp [tc, qc])
   ·rw [if_pos (hz.1 (by omega))] at hft
    refine wk0 ?_
    refine ⟨⟨j + 1, by omega⟩, ?_, by simp only; omega⟩
    simp only [hft]
    exact (by first | rfl | simp [tc, qc])
  ·have hjo : j = o.length := by omega
   subst hjo
   rw [List.take_length]
   have hfl : (o.filter nz).length ≤ o.length := List.length_filter_le _ _
   generalize o.filter nz = F at *
   have hsrt := c_SortP cmp165 F (by omega) g1 g2
   rw [← g3]
   refine wk0 ?_
   refine callI (hsrt) ?_
   refine wk0 ?_
   simp [memOut, outOK, lget, VC, hsOut, cellOut, ps_take, g4]
   rw [← g4, List.take_length]
theorem c_NormP (p : List Tm) (D M : Nat) (h : PB D M p) (hf : Fit D M) (hv : ∀ t ∈ p, t.1.vd) (hl : p.length < 549755813888) : CT 45 [pdat p] { val := .tup [.sl 11 (ps (nf p)), iv .i64 0], args := [pdat p] } := by
 have h1 := c_valid p hv hl
 have h2 := c_normal p D M h hf hl
 refine Ctr.intro ⟨Tryz.f45, _, Tryz.call45, Tryz.func45, fold_body (by rfl) (by kernel_rfl), (by simp [Tryz.ntmps45]), (by simp), (by kernel_rfl), ?_⟩
 refine wks ?_
 refine wk0 ?_
 refine callI (h1) ?_
 refine wk0 ?_
 refine callI (h2) ?_
 refine wk0 ?_
 trivial
end Go.Proofs.YteipiejlljnclaaGreatDoor
end
