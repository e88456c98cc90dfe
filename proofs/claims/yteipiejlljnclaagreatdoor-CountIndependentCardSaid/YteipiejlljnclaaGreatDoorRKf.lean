/- count: Expect; polynomial Add and Scale. Conditions stand in each. -/
import Derived.Test.YteipiejlljnclaaGreatDoorRKe
set_option linter.unusedVariables false
set_option linter.unusedSimpArgs false
set_option maxRecDepth 10000
set_option maxHeartbeats 8000000
namespace Go.Proofs.YteipiejlljnclaaGreatDoor
open Go Go.AL
attribute [local irreducible] run opK opD callK
attribute [local go_sem] not_true_eq_false not_false_eq_true decide_false psl_len dsc_len
attribute [local simp] keep keepEnv keepRows keepAV keepPl keepBody keepElems keepElem keepCells lget inL normG mc_keep mc_keep0
def psc (r : Rat) (p : List Tm) : List Tm := p.map fun t => (t.1, t.2 * r)
theorem psc_prods (r : Rat) (p : List Tm) : psc r p = prods p [(Mo.zero, r)] := by
 induction p with
 | nil => rfl
 | cons t p ih =>
  have : prods (t :: p) [(Mo.zero, r)] = (t.1.add Mo.zero, t.2 * r) :: prods p [(Mo.zero, r)] := rfl
  rw [this, ← ih, Mo.add_zero]; rfl
theorem psc_nf (r : Rat) (p : List Tm) : nf (psc r p) = pmul p (pconst r) := (nf_Cn _).ext (pmul_Cn _ _) fun F => by
 rw [nf_L, psc_prods, L_prods, pmul_L]
 congr 1
 funext a
 rw [pconst_L]
 show r * F _ + 0 = _
 rw [Rat.add_zero]
def scl (r : Rat) (p : List Tm) (i : Nat) : List Tm := psc r (p.take i) ++ p.drop i
theorem scl_len (r : Rat) (p : List Tm) (i : Nat) : (scl r p i).length = p.length := by simp [scl, psc]; omega
theorem scl_zero (r : Rat) (p : List Tm) : scl r p 0 = p := by simp [scl, psc]
theorem scl_end (r : Rat) (p : List Tm) : scl r p p.length = psc r p := by simp [scl]
theorem scl_gp (r : Rat) (p : List Tm) {i : Nat} (h : i < p.length) : gp (scl r p i) i = gp p i := by
 have hl : (psc r (p.take i)).length = i := by simp [psc]; omega
 unfold gp scl
 rw [List.getD_eq_getElem?_getD, List.getElem?_append_right (by omega), hl, Nat.sub_self, List.getElem?_drop, Nat.add_zero, ← List.getD_eq_getElem?_getD]
theorem scl_set (r : Rat) (p : List Tm) {i : Nat} (h : i < p.length) : (scl r p i).set i ((gp p i).1, (gp p i).2 * r) = scl r p (i + 1) := by
 have hl : (psc r (p.take i)).length = i := by simp [psc]; omega
 unfold scl
 rw [List.set_append_right _ _ (by omega), hl, Nat.sub_self, gp_drop h, List.set_cons_zero, gp_take h]
 simp [psc]
theorem c_ScaleS (p : List Tm) (r : Rat) (D E M N : Nat) (h1 : PB D M p) (h2 : PB E N [(Mo.zero, r)]) (hf1 : Fit D M) (hf2 : Fit E N) (hf : Fit (D * E) (M * N)) (hl : p.length < 549755813888) :
  CT 106 [pdat p, .data (qr r)] { val := .sl 11 (ps (pmul p (pconst r))), args := [pdat p, .data (qr r)] } := by
 have key := c_Collect (psc r p) (D * E) (M * N) (by rw [psc_prods]; exact h1.prods h2) hf (by simpa [psc] using hl)
 rw [psc_nf] at key
 have hc := c_CloneP p hl
 have hrq : Qz r := h2.qz hf2 (.head _)
 refine Ctr.intro ⟨Tryz.f106, _, Tryz.call106, Tryz.func106, fold_body (by rfl) (by kernel_rfl), (by simp [Tryz.ntmps106]), (by simp), (by kernel_rfl), ?_⟩
 refine wks ?_
 refine wk1 @qr.eq_1 ?_
 refine callI (hc) ?_
 refine wk0 ?_
 refine run_loop [3, 5, 9, 10, 11] [3, 8] (α := {i : Nat // i ≤ p.length})
  (fun i => ⟨[(3, .hp ⟨3, 1⟩ 0 0), (5, .hs ⟨8, 1⟩ 0 p.length), (9, .hs ⟨8, 1⟩ 0 p.length), (10, iv .i64 p.length), (11, iv .i64 i.1)],
   [(3, ⟨1, true, true, .cells 3 [.agg [bv (decide (r.num < 0)), .sl 1 (u32s (limbs r.num.natAbs)), .sl 1 (u32s (limbs r.den))]]⟩), (8, ⟨1, true, false, .cells 11 (ps (scl r p i.1))⟩)]⟩)
  (fun i => p.length - i.1) ⟨0, Nat.zero_le _⟩ (by simp only [scl_zero]; exact (by first | rfl | simp [tc, qc])) ?_
 rintro ⟨i, hi⟩
 have hsl := scl_len r p i
 refine wk0 ?_
 refine condK.dec (fun h => ?_) (fun h => ?_)
 ·have hip : i < p.length := by omega
  have hg := scl_gp r p hip
  have hs := scl_set r p hip
  have hm := c_MulQ _ _ (h1.qz hf1 (gp_mem hip)) hrq
  generalize scl r p i = S at *
  generalize (gp p i).2 * r = x at *
  clear h1 h2
  refine wk1 @hg ?_
  refine callI (hm) ?_
  refine wk2 @qr.eq_1 @hg ?_
  refine vcalm (by kernel_rfl) ?_
  refine wk2 @qr.eq_1 @hg ?_
  refine ⟨⟨i + 1, by omega⟩, ?_, by simp only; omega⟩
  simp only [← hs]
  exact (by first | rfl | simp [tc, qc])
 ·have hip : i = p.length := by omega
  subst hip
  rw [scl_end] at hsl ⊢
  have ht : (psc r p).take p.length = psc r p := by rw [← hsl]; exact List.take_length
  refine wk1 @ht ?_
  refine callI (key) ?_
  refine wk0 ?_
  trivial
theorem c_ScaleP (p : List Tm) (r : Rat) (D E M N : Nat) (hcn : Cn p) (h1 : PB D M p) (h2 : PB E N [(Mo.zero, r)]) (hf1 : Fit D M) (hf2 : Fit E N) (hf : Fit (D * E) (M * N)) (hv : ∀ t ∈ p, t.1.vd) (hl : p.length < 549755813888) :
  CT 54 [pdat p, .data (qr r)] { val := .tup [.sl 11 (ps (pmul p (pconst r))), .sc (.int .i64 0)], args := [pdat p, .data (qr r)] } := by
 have k1 := c_valid p hv hl
 have k2 := c_normal p D M h1 hf1 hl
 rw [hcn.nf] at k2
 have k3 := c_ScaleS p r D E M N h1 h2 hf1 hf2 hf hl
 refine Ctr.intro ⟨Tryz.f54, _, Tryz.call54, Tryz.func54, fold_body (by rfl) (by kernel_rfl), (by simp [Tryz.ntmps54]), (by simp), (by kernel_rfl), ?_⟩
 refine wks ?_
 refine wk1 @qr.eq_1 ?_
 refine callI (k1) ?_
 refine wk0 ?_
 refine callI (k2) ?_
 refine wk1 @qr.eq_1 ?_
 refine callI (k3) ?_
 refine wk0 ?_
 trivial
theorem c_limited (p : List Tm) (U : Nat) (hU : U ≤ 1000) (hp : PQ U p) : CT 175 [pdat p] { val := .tup [.sl 11 (ps p), .sc (.int .i64 0)], args := [pdat p] } := by
 have htp := c_Top p (by have := hp.len2 hU; omega)
 have hle := tpM_le hp.ex _ (Nat.le_refl _)
 generalize tpM p p.length = T at *
 refine Ctr.intro ⟨Tryz.f175, _, Tryz.call175, Tryz.func175, fold_body (by rfl) (by kernel_rfl), (by simp [Tryz.ntmps175]), (by simp), (by kernel_rfl), ?_⟩
 refine wks ?_
 refine wk0 ?_
 refine callI (htp) ?_
 refine wk0 ?_
 trivial
theorem PQ.vd {U : Nat} (hU : U ≤ 1000) {p : List Tm} (hp : PQ U p) : ∀ t ∈ p, t.1.vd := fun t ht => (hp.ex t ht).vd (by omega)
theorem c_AddP (p q : List Tm) (U : Nat) (hU : U < 1000) (hp : PQ U p) (hq : PQ U q) : CT 55 [pdat p, pdat q] { val := .tup [.sl 11 (ps (padd p q)), .sc (.int .i64 0)], args := [pdat p, pdat q] } := by
 have hlp := hp.len2 (by omega)
 have hlq := hq.len2 (by omega)
 have k1 := c_valid p (hp.vd (by omega)) (by omega)
 have k2 := c_valid q (hq.vd (by omega)) (by omega)
 have k3 := c_normal p _ _ hp.pb (PQ.fit (by omega)) (by omega)
 have k4 := c_normal q _ _ hq.pb (PQ.fit (by omega)) (by omega)
 rw [hp.cn.nf] at k3
 rw [hq.cn.nf] at k4
 have k5 := c_AddS p q (120 ^ U) (480 ^ U) (480 ^ U) hp.pb hq.pb (by
  have := fit_of (U := U) (a := 1) (b := 2) (by omega) (by omega) (by omega)
  rwa [Nat.mul_one, Nat.mul_two] at this) (by omega)
 have k6 := c_limited (padd p q) (U + 1) (by omega) (hp.padd hq)
 have kb : CT 107 [pdat p, pdat q, .data (.sc (.func (.func 46) #[] #[]))] { val := .tup [.sl 11 (ps (padd p q)), .sc (.int .i64 0)], args := [pdat p, pdat q, .data (.sc (.func (.func 46) #[] #[]))] } := by
  refine Ctr.intro ⟨Tryz.f107, _, Tryz.call107, Tryz.func107, fold_body (by rfl) (by kernel_rfl), (by simp [Tryz.ntmps107]), (by simp), (by kernel_rfl), ?_⟩
  refine wks ?_
  refine wk0 ?_
  refine callI (k1) ?_
  refine wk0 ?_
  refine callI (k2) ?_
  refine wk0 ?_
  refine callI (k3) ?_
  refine wk0 ?_
  refine callI (k4) ?_
  refine wk0 ?_
  refine callI (k5) ?_
  refine wk0 ?_
  refine callI (k6) ?_
  refine wk0 ?_
  trivial
 refine Ctr.intro ⟨Tryz.f55, _, Tryz.call55, Tryz.func55, fold_body (by rfl) (by kernel_rfl), (by simp [Tryz.ntmps55]), (by simp), (by kernel_rfl), ?_⟩
 refine wks ?_
 refine wk0 ?_
 refine callI (kb) ?_
 refine wk0 ?_
 trivial
noncomputable def esum (l : List Tr) (m : List (List Tm)) : Nat → List Tm
 | 0 => []
 | i + 1 => if siteOf (gt l i) < 0 then padd (esum l m i) (pmul (gl m i) (pconst (valOf (gt l i)))) else esum l m i
theorem esum_Cn (l : List Tr) (m : List (List Tm)) : ∀ n, Cn (esum l m n)
 | 0 => Cn.nil
 | n + 1 => by
  rw [esum]
  split
  ·exact padd_Cn _ _
  ·exact esum_Cn l m n
theorem esum_L (l : List Tr) (m : List (List Tm)) (F : Mo → Rat) : ∀ n, L (esum l m n) F = tot (fun j => if siteOf (gt l j) < 0 then (valOf (gt l j) : Rat) * L (gl m j) F else 0) n
 | 0 => rfl
 | n + 1 => by
  rw [esum, tot, ← esum_L l m F n]
  split
  ·rw [padd_L, pmul_L]
   simp only [pconst_L, Mo.add_zero]
   rw [L_mulc]
  ·rw [Rat.add_zero]
theorem int_PB (v : Int) : PB 1 v.natAbs [(Mo.zero, (v : Rat))] := by
 have h := PB.one (D := 1) (t := (Mo.zero, (v : Rat))) (by omega) (by simp)
 have e : sc 1 (v : Rat) = v := by simp [sc]
 rw [e] at h
 exact h
theorem PQ.scale {U : Nat} {p : List Tm} (hp : PQ U p) {v : Int} (hv : v.natAbs ≤ 16) : PQ (U + 2) (pmul p (pconst v)) := by
 refine ⟨pmul_Cn _ _, ?_, ?_⟩
 ·have h1 := (hp.pb.prods (int_PB v)).nf
  rw [← psc_prods, psc_nf] at h1
  rw [Nat.mul_one] at h1
  have h2 := h1.scale (k := 14400) (by omega)
  have e1 : 120 ^ U * 14400 = 120 ^ (U + 2) := by rw [Nat.pow_add]
  have e2 : 480 ^ (U + 2) = 480 ^ U * 230400 := by rw [Nat.pow_add]
  rw [e1] at h2
  refine h2.mono ?_
  rw [e2, Nat.mul_assoc]
  exact Nat.mul_le_mul_left _ (by omega)
 ·refine pmul_all (P := Ex U) (Q := Ex 0) (fun a b ha hb => (Ex.add ha hb).mono (by omega)) hp.ex fun t ht => ?_
  unfold pconst at ht
  split at ht
  ·cases ht
  ·rw [List.mem_singleton.1 ht]; exact Ex.zero 0
theorem esum_PQ {l : List Tr} {m : List (List Tm)} {U : Nat} (h : ∀ x, PQ U (gl m x)) : ∀ n, n ≤ l.length → (∀ t ∈ l, (valOf t).natAbs ≤ 16) → PQ (U + 2 + n) (esum l m n)
 | 0, _, _ => PQ.nil _
 | n + 1, hn, hv => by
  have ih := esum_PQ (l := l) h n (by omega) hv
  rw [esum]
  split
  ·exact ih.padd (((h n).scale (hv _ (gt_mem (by omega)))).mono (by omega))
  ·exact ih.mono (by omega)
theorem sd_val {n : Nat} {t : Tr} (h : sd n t) : (valOf t).natAbs ≤ 16 := by
 cases t with
 | lf v => rw [sd] at h; simp only [valOf]; omega
 | br s ks => simp [valOf]
noncomputable def exq (t : Tr) (ds : List (Int × List (List Tm))) : List Tm := esum (enum t []) (msA (wt (wsO ds)) (enum t [])) (enum t []).length
theorem exq_Cn (t : Tr) (ds : List (Int × List (List Tm))) : Cn (exq t ds) := esum_Cn _ _ _
theorem enum_root (t : Tr) : gt (enum t []) ((enum t []).length - 1) = t := by
 have := enum_last t (l := []) (by simp)
 rw [List.getLast?_eq_getElem?] at this
 rw [gt, List.getD_eq_getElem?_getD, this]; rfl
theorem exq_L (t : Tr) (ds : List (Int × List (List Tm))) (F : Mo → Rat) : L (exq t ds) F = ev (wt (wsO ds)) (fun v => (v : Rat)) t F := by
 have h := msA_flow (W := wt (wsO ds)) (h := fun v => (v : Rat)) (enum_clo (t := t) .nil) (List.length_pos_of_mem (mem_enum t [])) F
 rw [enum_root] at h
 rw [exq, esum_L, h]
theorem Rin.masses {t : Tr} {ds : List (Int × List (List Tm))} (h : Rin t ds) : ∀ x, PQ 180 (gl (msA (wt (wsO ds)) (enum t [])) x) := fun x => by
 obtain ⟨hx, hn, hc, h0⟩ := h.all
 exact (mss_PQ hc (fun x _ k => wt_PW h.w (siteOf x).toNat k) (fun x hxx => (hx x hxx).1.kids3) (Nat.le_refl _) x).mono (by omega)
theorem Rin.exqQ {t : Tr} {ds : List (Int × List (List Tm))} (h : Rin t ds) : PQ 242 (exq t ds) := by
 obtain ⟨hx, hn, hc, h0⟩ := h.all
 exact (esum_PQ h.masses _ (Nat.le_refl _) fun t ht => sd_val (hx t ht).2.1).mono (by omega)
theorem Rin.leaf0 {t : Tr} {ds : List (Int × List (List Tm))} (h : Rin t ds) : siteOf (gt (enum t []) 0) < 0 := by
 obtain ⟨hx, hn, hc, h0⟩ := h.all
 have hm := gt_mem h0
 have hk := fun k hk => (kid_lt hc h0 (k := k) hk).2
 have hok := (hx _ hm).1
 cases hg : gt (enum t []) 0 with
 | lf v => show (-1 : Int) < 0; omega
 | br s ks =>
  rw [hg] at hok hk
  have hks : ks.length = wid s := by cases hok; assumption
  have hwb := wid_bd s
  exact absurd (hk (gt ks 0) (gt_mem (l := ks) (by omega))) (Nat.not_lt_zero _)
theorem c_Expect (t : Tr) (ds : List (Int × List (List Tm))) (h : Rin t ds) : CT 17 [dgt (enum t []), ddat ds] { val := .tup [.sl 11 (ps (exq t ds)), .sc (.int .i64 0)], args := [dgt (enum t []), ddat ds] } := by
 obtain ⟨hx, hn, hc, h0⟩ := h.all
 have hr := c_Reach t ds h
 have hm := h.masses
 have hlf := h.leaf0
 have hml := msA_len (wt (wsO ds)) (enum t [])
 have hES := fun n hn => esum_PQ (l := enum t []) hm n hn fun t ht => sd_val (hx t ht).2.1
 unfold exq
 clear h
 generalize enum t [] = E at *
 generalize msA (wt (wsO ds)) E = m at *
 have hnl := nds_length E
 have hpl := psl_len m
 have hz : esum E m 0 = [] := rfl
 refine Ctr.intro ⟨Tryz.f17, _, Tryz.call17, Tryz.func17, fold_body (by rfl) (by kernel_rfl), (by simp [Tryz.ntmps17]), (by simp), (by kernel_rfl), ?_⟩
 refine wks ?_
 refine wk0 ?_
 refine callI (hr) ?_
 refine wk0 ?_
 refine run_loop [6, 8, 23, 24, 25] [8] (α := {i : Nat // i ≤ E.length})
  (fun i => match i.1 with
   | 0 => ⟨[(6, .sl 1 (psl m)), (8, .hs ⟨8, 1⟩ 0 0), (23, .sl 3 (ns (nds E))), (24, iv .i64 E.length), (25, iv .i64 0)], [(8, ⟨1, true, false, .cells 11 []⟩)]⟩
   | i + 1 => ⟨[(6, .sl 1 (psl m)), (8, .sl 11 (ps (esum E m (i + 1)))), (23, .sl 3 (ns (nds E))), (24, iv .i64 E.length), (25, iv .i64 ((i : Int) + 1))], [(8, ⟨1, false, false, .cells 11 []⟩)]⟩) (fun i => E.length - i.1) ⟨0, Nat.zero_le _⟩ (by first | rfl | simp [tc, qc]) ?_
 rintro ⟨i, hi⟩
 cases i with
 | zero =>
  simp only
  have hil : 0 < E.length := by omega
  have hg := gn_nds hil
  obtain ⟨x1, x2, x3⟩ := hx _ (gt_mem hil)
  have hes : esum E m (0 + 1) = if siteOf (gt E (0)) < 0 then padd (esum E m (0)) (pmul (gl m (0)) (pconst (valOf (gt E (0))))) else esum E m (0) := rfl
  have hEi := hES (0) (by omega)
  rw [← gt_eq hil] at hg
  clear hx hES
  generalize gt E (0) = x at *
  obtain ⟨S', hS'⟩ : ∃ S', esum E m (0 + 1) = S' := ⟨_, rfl⟩
  rw [hS'] at hes
  generalize esum E m (0) = S at *
  cases x with
  | lf v =>
   have hv := sd_val x2
   simp only [valOf] at hv
   have hnd : nd E (.lf v) = ⟨-1, v, []⟩ := rfl
   rw [hnd] at hg
   rw [if_pos (by simp [siteOf])] at hes
   simp only [valOf] at hes
   have hi1 := c_Int v (by omega)
   have hai := psl_at m (i := 0) (by omega)
   have hsc := c_ScaleP (gl m (0)) v (120 ^ 180) 1 (480 ^ 180) v.natAbs (hm (0)).cn (hm (0)).pb (int_PB v) (PQ.fit (by omega)) (PW.fit (by omega) (by omega)) (fit_of (by omega) (by omega) (by omega)) ((hm (0)).vd (by omega)) (by have := (hm (0)).len2 (by omega); omega)
   have had := c_AddP S (pmul (gl m (0)) (pconst v)) (182 + (0)) (by omega) hEi (((hm (0)).scale hv).mono (by omega))
   rw [← hes] at had
   subst hz
   refine wk2 @hg @hai ?_
   refine callI (hi1) ?_
   refine wk1 @qr.eq_1 ?_
   refine callI (hsc) ?_
   refine wk0 ?_
   refine vcalm (by kernel_rfl) ?_
   refine wk0 ?_
   refine callI (had) ?_
   refine wk0 ?_
   refine ⟨⟨0 + 1, by omega⟩, ?_, by simp only <;> omega⟩
   first | (simp only [hS']; exact (by first | rfl | simp [tc, qc])) | (simp only [show esum E m 1 = S' from hS']; exact (by first | rfl | simp [tc, qc]))
  | br s ks =>
   exact absurd hlf (Int.not_lt.mpr (Int.natCast_nonneg s))
 | succ i =>
  simp only
  refine wk0 ?_
  refine condK.dec (fun hlt => ?_) (fun hlt => ?_)
  ·have hil : i + 1 < E.length := by omega
   clear hlf
   have hg := gn_nds hil
   obtain ⟨x1, x2, x3⟩ := hx _ (gt_mem hil)
   have hes : esum E m (i + 1 + 1) = if siteOf (gt E (i + 1)) < 0 then padd (esum E m (i + 1)) (pmul (gl m (i + 1)) (pconst (valOf (gt E (i + 1))))) else esum E m (i + 1) := rfl
   have hEi := hES (i + 1) (by omega)
   rw [← gt_eq hil] at hg
   clear hx hES
   generalize gt E (i + 1) = x at *
   obtain ⟨S', hS'⟩ : ∃ S', esum E m (i + 1 + 1) = S' := ⟨_, rfl⟩
   rw [hS'] at hes
   generalize esum E m (i + 1) = S at *
   cases x with
   | lf v =>
    have hv := sd_val x2
    simp only [valOf] at hv
    have hnd : nd E (.lf v) = ⟨-1, v, []⟩ := rfl
    rw [hnd] at hg
    rw [if_pos (by simp [siteOf])] at hes
    simp only [valOf] at hes
    have hi1 := c_Int v (by omega)
    have hai := psl_at m (i := i + 1) (by omega)
    have hsc := c_ScaleP (gl m (i + 1)) v (120 ^ 180) 1 (480 ^ 180) v.natAbs (hm (i + 1)).cn (hm (i + 1)).pb (int_PB v) (PQ.fit (by omega)) (PW.fit (by omega) (by omega)) (fit_of (by omega) (by omega) (by omega)) ((hm (i + 1)).vd (by omega)) (by have := (hm (i + 1)).len2 (by omega); omega)
    have had := c_AddP S (pmul (gl m (i + 1)) (pconst v)) (182 + (i + 1)) (by omega) hEi (((hm (i + 1)).scale hv).mono (by omega))
    rw [← hes] at had
    skip
    refine wk2 @hg @hai ?_
    refine callI (hi1) ?_
    refine wk1 @qr.eq_1 ?_
    refine callI (hsc) ?_
    refine wk0 ?_
    refine vcalm (by kernel_rfl) ?_
    refine wk0 ?_
    refine callI (had) ?_
    refine wk0 ?_
    refine ⟨⟨i + 1 + 1, by omega⟩, ?_, by simp only <;> omega⟩
    first | (simp only [hS']; exact (by first | rfl | simp [tc, qc])) | (simp only [show esum E m 1 = S' from hS']; exact (by first | rfl | simp [tc, qc]))
   | br s ks =>
    skip
    have hsv : (nd E (.br s ks)).site = (s : Int) := rfl
    rw [if_neg (by simp only [siteOf]; omega)] at hes
    subst hes
    refine wk2 @hg @hsv ?_
    refine ⟨⟨i + 1 + 1, by omega⟩, ?_, by simp only <;> omega⟩
    simp only [hS']
    exact (by first | rfl | simp [tc, qc])
  ·have hil : i + 1 = E.length := by omega
   rw [hil]
   refine wk0 ?_
   trivial
end Go.Proofs.YteipiejlljnclaaGreatDoor
