/- count: Reach. Conditions stand in each. -/
import Derived.Test.YteipiejlljnclaaGreatDoorRKd
set_option linter.unusedVariables false
set_option linter.unusedSimpArgs false
set_option maxRecDepth 10000
set_option maxHeartbeats 8000000
namespace Go.Proofs.YteipiejlljnclaaGreatDoor
open Go Go.AL
attribute [local irreducible] run opK opD callK
attribute [local go_sem] not_true_eq_false not_false_eq_true decide_false psl_len dsc_len
attribute [local simp] keep keepEnv keepRows keepAV keepPl keepBody keepElems keepElem keepCells lget inL normG mc_keep mc_keep0
theorem PW.nil (M : Nat) : PW M [] := ⟨Cn.nil, PB.nil (by omega), fun _ h => by cases h⟩
theorem wt_PW {ws : List (List (List Tm))} (hw : WOK ws) (s k : Nat) : PW 360 (wt ws s k) := by
 unfold wt
 rw [List.getD_eq_getElem?_getD (l := ws.getD s [])]
 by_cases h : k < (ws.getD s []).length
 ·rw [List.getElem?_eq_getElem h]; exact hw.pw s _ (List.getElem_mem h)
 ·rw [List.getElem?_eq_none (by omega)]; exact PW.nil _
theorem wid_le (s : Nat) : wid s ≤ 3 := (wid_bd s).2
theorem Ok.kids3 {x : Tr} (h : Ok wid x) : (kidsOf x).length ≤ 3 := by
 cases h with
 | lf => simp [kidsOf]
 | br a b c d e f g => have := wid_bd (by assumption : Nat); simp only [kidsOf, b]; exact wid_le _
theorem one_qz : Qz 1 := Qz.small (q := 1) (by decide) (by decide)
theorem c_Reach (t : Tr) (ds : List (Int × List (List Tm))) (h : Rin t ds) : CT 13 [dgt (enum t []), ddat ds] { val := .tup [.sl 1 (psl (msA (wt (wsO ds)) (enum t []))), .sc (.int .i64 0)], args := [dgt (enum t []), ddat ds] } := by
 obtain ⟨hx, hn, hc, h0⟩ := h.all
 have hchk := c_Check t ds h
 have hW := wt_PW h.w
 have hw := h.w
 have hdl := h.dl
 clear h
 generalize enum t [] = E at *
 have hPQ := fun j hj => mss_PQ (W := wt (wsO ds)) (l := E) hc (fun x _ k => hW (siteOf x).toNat k) (fun x hxx => (hx x hxx).1.kids3) (j := j) hj
 have hnl := nds_length E
 have hdn := dsc_len ds
 have hml := mss_len (wt (wsO ds)) E
 have hi1 := c_Int 1 (by omega)
 rw [show ((1 : Int) : Rat) = 1 by rfl] at hi1
 have hco := c_ConstP 1 one_qz
 rw [← pone_const] at hco
 have hz := psl_at (List.replicate E.length []) (i := E.length - 1) (by rw [List.length_replicate]; omega)
 have hm0 : mss (wt (wsO ds)) E 0 = (List.replicate E.length []).set (E.length - 1) pone := rfl
 refine Ctr.intro ⟨Tryz.f13, _, Tryz.call13, Tryz.func13, fold_body (by rfl) (by kernel_rfl), (by simp [Tryz.ntmps13]), (by simp), (by kernel_rfl), ?_⟩
 refine wks ?_
 refine wk0 ?_
 refine callI (hchk) ?_
 refine wk0 ?_
 refine callI (hi1) ?_
 refine wk1 @qr.eq_1 ?_
 refine callI (hco) ?_
 refine wk3 @psl_rep @hz @psl_set ?_
 refine run_loop [1, 2, 7, 8] [2, 25] (α := {j : Nat // j ≤ E.length})
  (fun j => ⟨[(1, .sl 10 (dscs ds)), (2, .hp ⟨2, 1⟩ 0 0), (7, .hs ⟨25, 1⟩ 0 E.length), (8, iv .i64 ((E.length : Int) - 1 - (j.1 : Nat)))],
   [(2, ⟨1, true, true, .cells 1 [.agg [.sl 3 (ns (nds E))]]⟩), (25, ⟨1, true, false, .cells 1 (psl (mss (wt (wsO ds)) E j.1))⟩)]⟩)
  (fun j => E.length - j.1) ⟨0, Nat.zero_le _⟩ (by simp only [hm0]; exact (by first | rfl | simp [tc, qc])) ?_
 rintro ⟨j, hj⟩
 have hPj := hPQ j hj
 have hmj := hml j
 refine wk0 ?_
 refine condK.dec (fun hlt => ?_) (fun hlt => ?_)
 ·obtain ⟨i, hi⟩ : ∃ i, i = E.length - 1 - j := ⟨_, rfl⟩
  have hii : (E.length : Int) - 1 - (j : Nat) = (i : Nat) := by omega
  have hjj : (E.length : Int) - 1 - ((j + 1 : Nat) : Int) = (i : Nat) - 1 := by omega
  have hil : i < E.length := by omega
  have hms : mss (wt (wsO ds)) E (j + 1) = kms (wt (wsO ds)) E i (gt E i) (mss (wt (wsO ds)) E j) (kidsOf (gt E i)).length := by rw [hi]; rfl
  have hg := gn_nds hil
  obtain ⟨x1, x2, x3⟩ := hx _ (gt_mem hil)
  have hkid := fun k (hk : k < (kidsOf (gt E i)).length) => kid_lt hc hil (gt_mem (l := kidsOf (gt E i)) (k := k) hk)
  rw [← gt_eq hil] at hg
  generalize mss (wt (wsO ds)) E j = m at *
  generalize gt E i = x at *
  have hgk : ∀ k (h : k < (kidsOf x).length), gi (nd E x).kids k = (ix E (gt (kidsOf x) k) : Nat) := by
   intro k h
   rw [gt_eq h]
   exact gi_kid (t := x) h
  have hkn : (nd E x).kids.length = (kidsOf x).length := nd_klen E x
  have hsv : (nd E x).site = siteOf x := rfl
  have hkl3 := x1.kids3
  have hlen := kms_len (wt (wsO ds)) E i x m
  have hKP := fun k hk => kms_PQ (W := wt (wsO ds)) (i := i) (fun k => hW (siteOf x).toNat k) (fun k hk => by
   obtain ⟨q, hq, rfl⟩ := List.mem_iff_getElem.1 hk
   rw [← gt_eq hq]
   exact (hkid q hq).1) hmj hPj (k := k) hk
  clear hPQ hPj hml
  generalize nd E x = N at *
  refine wk2 @hii @hg ?_
  refine run_loop [1, 2, 7, 8, 9, 46, 47, 48] [2, 9, 25] (α := {k : Nat // k ≤ (kidsOf x).length})
   (fun k => ⟨[(1, .sl 10 (dscs ds)), (2, .hp ⟨2, 1⟩ 0 0), (7, .hs ⟨25, 1⟩ 0 E.length), (8, iv .i64 (i : Nat)), (9, .hp ⟨9, 1⟩ 0 0), (46, .sl 1 (ints N.kids)), (47, iv .i64 (kidsOf x).length), (48, iv .i64 k.1)],
    [(2, ⟨1, true, true, .cells 1 [.agg [.sl 3 (ns (nds E))]]⟩), (9, ⟨1, true, true, .cells 3 [.agg [iv .i64 N.site, iv .i64 N.value, .sl 1 (ints N.kids)]]⟩), (25, ⟨1, true, false, .cells 1 (psl (kms (wt (wsO ds)) E i x m k.1))⟩)]⟩)
   (fun k => (kidsOf x).length - k.1) ⟨0, Nat.zero_le _⟩ (by rw [hkn]; exact (by first | rfl | simp [tc, qc])) ?_
  rintro ⟨k, hk⟩
  refine wk0 ?_
  refine condK.dec (fun hk2 => ?_) (fun hk2 => ?_)
  ·have hkq : k < (kidsOf x).length := by omega
   have hgk' := hgk k hkq
   obtain ⟨c1, c2⟩ := hkid k hkq
   have hcl := ix_lt c1
   have hl2 := hlen k
   have hP2 := hKP k (by omega)
   have hstep : kms (wt (wsO ds)) E i x m (k + 1) = (kms (wt (wsO ds)) E i x m k).set (ix E (gt (kidsOf x) k)) (padd (gl (kms (wt (wsO ds)) E i x m k) (ix E (gt (kidsOf x) k))) (pmul (gl (kms (wt (wsO ds)) E i x m k) i) (wt (wsO ds) (siteOf x).toNat k))) := rfl
   cases x with
   | lf v => simp [kidsOf] at hkq
   | br s ks =>
    have hks : ks.length = wid s := by cases x1; assumption
    have hwb := wid_bd s
    rw [sd] at x2
    have hat := dsc_at ds x2.1
    have hwl := hw.len s (by rw [List.length_map]; exact x2.1)
    have hwe : gl ((wsO ds).getD s []) k = wt (wsO ds) s k := rfl
    have hpw := hW s k
    have hpa := psl_at ((wsO ds).getD s []) (i := k) (by rw [hwl, ← hks]; exact hkq)
    rw [hwe] at hpa
    have hst : (siteOf (.br s ks)).toNat = s := by simp [siteOf]
    rw [hst] at hstep
    simp only [siteOf] at hsv
    have hql := psl_len ((wsO ds).getD s [])
    simp only [kidsOf] at hkq hk
    generalize gt (kidsOf (.br s ks)) k = y at *
    generalize ix E y = c at *
    generalize kms (wt (wsO ds)) E i (.br s ks) m k = M at *
    generalize wt (wsO ds) s k = w at *
    generalize (wsO ds).getD s [] = Q at *
    have hcn := c_NormW w hpw
    have hai := psl_at M (i := i) (by omega)
    have hac := psl_at M (i := c) (by omega)
    have hpl := psl_len M
    have hmu := c_MulW (3 * j + k) (gl M i) w (by omega) (hP2 i) hpw
    have had := c_AddW (3 * j + k) (gl M c) (gl M i) w (by omega) (hP2 c) (hP2 i) hpw
    clear hgk hkid hlen hKP hP2 hW hw hx
    refine wk4 @hsv @hat @hpa @hgk' ?_
    refine callI (hcn) ?_
    refine wk6 @hsv @hat @hpa @hgk' @hai @hac ?_
    refine callI (hmu) ?_
    refine wk0 ?_
    refine callI (had) ?_
    refine wk2 @hac @psl_set ?_
    refine vcalm (by kernel_rfl) ?_
    refine wk2 @hac @psl_set ?_
    refine ⟨⟨k + 1, by simp only [kidsOf]; omega⟩, ?_, by simp only [kidsOf]; omega⟩
    simp only [hstep]
    exact (by first | rfl | simp [tc, qc])
  ·have hkq : k = (kidsOf x).length := by omega
   subst hkq
   rw [← hms]
   refine wk0 ?_
   refine ⟨⟨j + 1, by omega⟩, ?_, by simp only; omega⟩
   simp only [hjj]
   exact (by first | rfl | simp [tc, qc])
 ·have hjn : j = E.length := by omega
  subst hjn
  clear hPQ hml
  have hmA : mss (wt (wsO ds)) E E.length = msA (wt (wsO ds)) E := rfl
  rw [hmA] at hPj hmj ⊢
  generalize msA (wt (wsO ds)) E = m at *
  have hpl := psl_len m
  refine wk0 ?_
  refine run_loop [7, 84, 85, 86] [25] (α := {i : Nat // i ≤ E.length})
   (fun i => ⟨[(7, .hs ⟨25, 1⟩ 0 E.length), (84, .hs ⟨25, 1⟩ 0 E.length), (85, iv .i64 E.length), (86, iv .i64 i.1)], [(25, ⟨1, true, false, .cells 1 (psl m)⟩)]⟩)
   (fun i => E.length - i.1) ⟨0, Nat.zero_le _⟩ (by first | rfl | simp [tc, qc]) ?_
  rintro ⟨i, hi⟩
  refine wk0 ?_
  refine condK.dec (fun hlt2 => ?_) (fun hlt2 => ?_)
  ·have hai := psl_at m (i := i) (by omega)
   have htp := c_Top (gl m i) (by have := (hPj i).len2 (by omega); omega)
   have hle := tpM_le (hPj i).ex _ (Nat.le_refl _)
   generalize tpM (gl m i) (gl m i).length = T at *
   refine wk1 @hai ?_
   refine callI (htp) ?_
   refine wk0 ?_
   exact ⟨⟨i + 1, by omega⟩, (by first | rfl | simp [tc, qc]), by simp only; omega⟩
  ·have ht : (psl m).take E.length = psl m := by rw [← hmj]; exact psl_take m
   refine wk0 ?_
   first | exact ⟨⟨by omega, ht⟩, trivial⟩ | (simp [VC, ht, hmj]; done)
end Go.Proofs.YteipiejlljnclaaGreatDoor
