/- CountLeaves: the law's walk. Conditions stand in each. -/
import Derived.Test.YteipiejlljnclaaGreatDoorQKg
import Derived.Test.YteipiejlljnclaaGreatDoorQGh
set_option linter.unusedVariables false
set_option linter.unusedSimpArgs false
set_option maxRecDepth 10000
set_option maxHeartbeats 8000000
namespace Go.Proofs.YteipiejlljnclaaGreatDoor
open Go Go.AL
attribute [local irreducible] run opK opD callK
attribute [local go_sem] not_true_eq_false not_false_eq_true decide_false psl_len dsc_len
attribute [local simp] keep keepEnv keepRows keepAV keepPl keepBody keepElems keepElem keepCells lget inL normG mc_keep mc_keep0
noncomputable def dT (l : List Int) : Tr := (dia l 4 0 0).1
noncomputable def dD (l : List Int) : List (Int × List (List Tm)) := (dst l (dia l 4 0 0).2 2 4).1
theorem dT_in (l : List Int) : Rin (dT l) (dD l) := by
 obtain ⟨h1, h2, h3, h4⟩ := dia_ok l 4 0 0 (by omega) (Nat.zero_le _)
 obtain ⟨h5, h6⟩ := dia_sd l 4 0 0 (by omega) (Nat.zero_le _)
 have hl : (dD l).length = 4 := dst_len _ _ _ _
 rw [bw_04] at h6
 exact ⟨h1, Nat.le_trans h6 (by omega), by rw [hl]; exact h5, dst_ok l _ 2 h3 (by omega) 4, by omega⟩
theorem c_SumQ (U : Nat) (p q : List Tm) (hU : U ≤ 1000) (hp : PQ U p) (hq : PQ U q) : CT 22 [pdat p, pdat q] { val := .sl 11 (ps (padd p q)), args := [pdat p, pdat q] } := by
 refine c_Sum p q (120 ^ U) (480 ^ U) (480 ^ U) hp.cn hp.pb hq.pb ?_ (by have := hp.len2 hU; have := hq.len2 hU; omega)
 have := fit_of (U := U) (a := 1) (b := 2) (by omega) (by omega) (by omega)
 rwa [Nat.mul_one, Nat.mul_two] at this
theorem c_Leaves (l : List Int) (hl : l.length < 4611686018427387904) : CT 5 [idat l] { val := .sc (.bool true), args := [idat l] } := by
 have hn := c_New l hl
 have hlt : (l.take 1000).length < 4611686018427387904 := by rw [List.length_take]; omega
 generalize l.take 1000 = k at *
 have hin := dT_in k
 have hlf := hin.leaf0
 have hdi : CT 20 [sp k 0, .data (iv .i64 0), .data (iv .i64 3)] { val := dg (dT k), args := [sp k (dia k 4 0 0).2, .data (iv .i64 0), .data (iv .i64 3)] } := c_Diagram k hlt 3 (by omega) 4 0 0 (by omega) (Nat.zero_le _)
 have hds : CT 21 [sp k (dia k 4 0 0).2, .data (iv .i64 4), .data (iv .i64 2)] { val := .sl 10 (dscs (dD k)), args := [sp k (dst k (dia k 4 0 0).2 2 4).2, .data (iv .i64 4), .data (iv .i64 2)] } := c_Dists k _ 4 2 hlt (dia_ok k 4 0 0 (by omega) (Nat.zero_le _)).2.2.1 (by omega) (by omega)
 have hre := c_Reach (dT k) (dD k) hin
 have hone := lsum_one hin.w hin.ok (by rw [List.length_map]; exact hin.sb)
 have hm := hin.masses
 obtain ⟨hx, hen, hc, h0⟩ := hin.all
 have hml := msA_len (wt (wsO (dD k))) (enum (dT k) [])
 have hLP := fun n => lsum_PQ (l := enum (dT k) []) hm n
 unfold dg at hdi
 clear hin
 generalize dD k = D at *
 generalize enum (dT k) [] = E at *
 generalize msA (wt (wsO D)) E = m at *
 generalize (dia k 4 0 0).2 = b at *
 generalize (dst k b 2 4).2 = b' at *
 have hnl := nds_length E
 have hpl := psl_len m
 have hz : lsum E m 0 = [] := rfl
 refine Ctr.intro ⟨Tryz.f5, _, Tryz.call5, Tryz.func5, fold_body (by rfl) (by kernel_rfl), (by simp [Tryz.ntmps5]), (by simp), (by kernel_rfl), ?_⟩
 refine wks ?_
 refine wk0 ?_
 refine callI (hn) ?_
 refine wk0 ?_
 refine callI (hdi) ?_
 refine wk0 ?_
 refine callI (hds) ?_
 refine wk0 ?_
 refine callI (hre) ?_
 refine wk0 ?_
 refine run_loop [4, 6, 8, 9] [4, 8] (α := {i : Nat // i ≤ E.length})
  (fun i => match i.1 with
   | 0 => ⟨[(4, .hp ⟨4, 1⟩ 0 0), (6, .sl 1 (psl m)), (8, .hs ⟨8, 1⟩ 0 0), (9, iv .i64 0)], [(4, ⟨1, true, true, .cells 1 [.agg [.sl 3 (ns (nds E))]]⟩), (8, ⟨1, true, false, .cells 11 []⟩)]⟩
   | i + 1 => ⟨[(4, .hp ⟨4, 1⟩ 0 0), (6, .sl 1 (psl m)), (8, .sl 11 (ps (lsum E m (i + 1)))), (9, iv .i64 ((i : Int) + 1))], [(4, ⟨1, true, true, .cells 1 [.agg [.sl 3 (ns (nds E))]]⟩), (8, ⟨1, false, false, .cells 11 []⟩)]⟩) (fun i => E.length - i.1) ⟨0, Nat.zero_le _⟩ (by first | rfl | simp [tc, qc]) ?_
 rintro ⟨i, hi⟩
 cases i with
 | zero =>
  simp only
  have hil : 0 < E.length := by omega
  have hg := gn_nds hil
  have hes : lsum E m (0 + 1) = if siteOf (gt E (0)) < 0 then padd (lsum E m (0)) (gl m (0)) else lsum E m (0) := rfl
  have hLi := hLP (0)
  rw [← gt_eq hil] at hg
  clear hx hLP
  generalize gt E (0) = x at *
  obtain ⟨S', hS'⟩ : ∃ S', lsum E m (0 + 1) = S' := ⟨_, rfl⟩
  rw [hS'] at hes
  generalize lsum E m (0) = S at *
  have hai := psl_at m (i := 0) (by omega)
  have hsm := c_SumQ (180 + (0)) S (gl m (0)) (by omega) hLi ((hm (0)).mono (by omega))
  cases x with
  | lf v =>
   have hnd : nd E (.lf v) = ⟨-1, v, []⟩ := rfl
   rw [hnd] at hg
   rw [if_pos (by simp [siteOf])] at hes
   rw [← hes] at hsm
   subst hz
   refine wk2 @hg @hai ?_
   refine callI (hsm) ?_
   refine wk0 ?_
   refine ⟨⟨0 + 1, by omega⟩, ?_, by simp only <;> omega⟩
   first | (simp only [hS']; exact (by first | rfl | simp [tc, qc])) | (simp only [show lsum E m 1 = S' from hS']; exact (by first | rfl | simp [tc, qc]))
  | br s ks =>
   exact absurd hlf (Int.not_lt.mpr (Int.natCast_nonneg s))
 | succ i =>
  simp only
  refine wk0 ?_
  refine condK.dec (fun hlt => ?_) (fun hlt => ?_)
  ·have hil : i + 1 < E.length := by omega
   clear hlf
   have hg := gn_nds hil
   have hes : lsum E m (i + 1 + 1) = if siteOf (gt E (i + 1)) < 0 then padd (lsum E m (i + 1)) (gl m (i + 1)) else lsum E m (i + 1) := rfl
   have hLi := hLP (i + 1)
   rw [← gt_eq hil] at hg
   clear hx hLP
   generalize gt E (i + 1) = x at *
   obtain ⟨S', hS'⟩ : ∃ S', lsum E m (i + 1 + 1) = S' := ⟨_, rfl⟩
   rw [hS'] at hes
   generalize lsum E m (i + 1) = S at *
   have hai := psl_at m (i := i + 1) (by omega)
   have hsm := c_SumQ (180 + (i + 1)) S (gl m (i + 1)) (by omega) hLi ((hm (i + 1)).mono (by omega))
   cases x with
   | lf v =>
    have hnd : nd E (.lf v) = ⟨-1, v, []⟩ := rfl
    rw [hnd] at hg
    rw [if_pos (by simp [siteOf])] at hes
    rw [← hes] at hsm
    skip
    refine wk2 @hg @hai ?_
    refine callI (hsm) ?_
    refine wk0 ?_
    refine ⟨⟨i + 1 + 1, by omega⟩, ?_, by simp only <;> omega⟩
    first | (simp only [hS']; exact (by first | rfl | simp [tc, qc])) | (simp only [show lsum E m 1 = S' from hS']; exact (by first | rfl | simp [tc, qc]))
   | br s ks =>
    skip
    have hsv : (nd E (.br s ks)).site = (s : Int) := rfl
    rw [if_neg (by simp only [siteOf]; omega)] at hes
    subst hes
    refine wk2 @hg @hsv ?_
    refine ⟨⟨i + 1 + 1, by omega⟩, ?_, by simp only <;> omega⟩
    simp only [hS']
    exact (by first | rfl | simp [tc, qc])
  ·have hil : i + 1 = E.length := by omega
   rw [hil, hone]
   have hsa := c_Samep pone pone (PQ.one.qz (by omega)) (PQ.one.qz (by omega)) (by decide) (by decide)
   rw [decide_eq_true rfl] at hsa
   refine wk0 ?_
   refine callI (c_One) ?_
   refine wk0 ?_
   refine callI (hsa) ?_
   refine wk0 ?_
   refine callI (c_awake) ?_
   refine wk0 ?_
   simp [VC]
end Go.Proofs.YteipiejlljnclaaGreatDoor
