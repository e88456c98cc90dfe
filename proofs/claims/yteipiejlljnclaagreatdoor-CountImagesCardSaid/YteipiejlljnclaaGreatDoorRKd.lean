/- count: Max, Top, Check, Reach. Conditions stand in each. -/
import Derived.Test.YteipiejlljnclaaGreatDoorRJc
import Derived.Test.YteipiejlljnclaaGreatDoorRIa
import Derived.Test.YteipiejlljnclaaGreatDoorRHe
import Derived.Test.YteipiejlljnclaaGreatDoorRKa
set_option linter.unusedVariables false
set_option linter.unusedSimpArgs false
set_option maxRecDepth 10000
set_option maxHeartbeats 8000000
namespace Go.Proofs.YteipiejlljnclaaGreatDoor
open Go Go.AL
attribute [local irreducible] run opK opD callK
attribute [local go_sem] not_true_eq_false not_false_eq_true decide_false psl_len dsc_len
attribute [local simp] keep keepEnv keepRows keepAV keepPl keepBody keepElems keepElem keepCells lget inL normG mc_keep mc_keep0
def mx (l : List Int) : Nat → Int
 | 0 => gi l 0
 | n + 1 => max (mx l n) (gi l (n + 1))
theorem c_Max (a : List Int) (h0 : 0 < a.length) (hl : a.length < 4611686018427387904) : CT 101 [idat a] { val := iv .i64 (mx a (a.length - 1)), args := [idat a] } := by
 refine Ctr.intro ⟨Tryz.f101, _, Tryz.call101, Tryz.func101, fold_body (by rfl) (by kernel_rfl), (by simp [Tryz.ntmps101]), (by simp), (by kernel_rfl), ?_⟩
 refine wks ?_
 refine wk0 ?_
 refine run_loop [0, 3, 4] [] (α := {i : Nat // i < a.length}) (fun i => ⟨[(0, .sl 1 (ints a)), (3, iv .i64 (mx a i.1)), (4, iv .i64 (i.1 + 1 : Nat))], []⟩) (fun i => a.length - i.1) ⟨0, h0⟩ (by first | rfl | simp [tc, qc]) ?_
 rintro ⟨i, hi⟩
 refine wk0 ?_
 refine condK.dec (fun h => ?_) (fun h => ?_)
 ·refine wk0 ?_
  exact ⟨⟨i + 1, by omega⟩, (by first | rfl | simp [tc, qc]), by simp only; omega⟩
 ·have e : i = a.length - 1 := by omega
  subst e
  refine wk0 ?_
  trivial
theorem mx_le {m : Mo} {U : Nat} (h : Ex U m) : ∀ n, mx m.l n ≤ U
 | 0 => (h 0).2.1
 | n + 1 => by
  have h1 := mx_le h n
  have h2 : gi m.l (n + 1) ≤ U := (h (n + 1)).2.1
  rw [mx]; omega
def tpM (p : List Tm) : Nat → Int
 | 0 => 0
 | n + 1 => max (tpM p n) (mx (gp p n).1.l 7)
theorem tpM_le {p : List Tm} {U : Nat} (h : ∀ t ∈ p, Ex U t.1) : ∀ n, n ≤ p.length → tpM p n ≤ U
 | 0, _ => by rw [tpM]; omega
 | n + 1, hn => by
  have h1 := tpM_le h n (by omega)
  have h2 := mx_le (h _ (gp_mem (show n < p.length by omega))) 7
  rw [tpM]; omega
theorem c_Top (p : List Tm) (hl : p.length < 549755813888) : CT 48 [pdat p] { val := iv .i64 (tpM p p.length), args := [pdat p] } := by
 refine Ctr.intro ⟨Tryz.f48, _, Tryz.call48, Tryz.func48, fold_body (by rfl) (by kernel_rfl), (by simp [Tryz.ntmps48]), (by simp), (by kernel_rfl), ?_⟩
 refine wks ?_
 refine wk0 ?_
 refine run_loop [3, 6, 7, 8] [] (α := {i : Nat // i ≤ p.length}) (fun i => ⟨[(3, iv .i64 (tpM p i.1)), (6, .sl 11 (ps p)), (7, iv .i64 p.length), (8, iv .i64 i.1)], []⟩) (fun i => p.length - i.1) ⟨0, Nat.zero_le _⟩ (by first | rfl | simp [tc, qc]) ?_
 rintro ⟨i, hi⟩
 refine wk0 ?_
 refine condK.dec (fun h => ?_) (fun h => ?_)
 ·have hm := c_Max (gp p i).1.l (by rw [(gp p i).1.h]; decide) (by rw [(gp p i).1.h]; decide)
  rw [(gp p i).1.h] at hm
  refine wk0 ?_
  refine callI (hm) ?_
  refine wk0 ?_
  exact ⟨⟨i + 1, by omega⟩, (by first | rfl | simp [tc, qc]), by simp only; omega⟩
 ·have e : i = p.length := by omega
  subst e
  refine wk0 ?_
  trivial
theorem Ex.vd {U : Nat} (hU : U ≤ 1024) {m : Mo} (h : Ex U m) : m.vd := fun i _ => ⟨(h i).1, by have := (h i).2.1; omega⟩
theorem c_NormW (w : List Tm) (hw : PW 360 w) : CT 45 [pdat w] { val := .tup [.sl 11 (ps w), .sc (.int .i64 0)], args := [pdat w] } := by
 have := c_NormP w 120 360 hw.pb (PW.fit (by omega) (by omega)) (fun t ht => (hw.ex t ht).vd (by omega)) (by have := hw.len; omega)
 rwa [hw.cn.nf] at this
theorem PQ.len2 {U : Nat} (hU : U ≤ 1000) {p : List Tm} (hp : PQ U p) : p.length ≤ 1002001 := Nat.le_trans hp.len (Nat.mul_le_mul (show U + 1 ≤ 1001 by omega) (show U + 1 ≤ 1001 by omega))
theorem c_MulW (U : Nat) (p w : List Tm) (hU : U ≤ 1000) (hp : PQ U p) (hw : PW 360 w) : CT 47 [pdat p, pdat w] { val := .sl 11 (ps (pmul p w)), args := [pdat p, pdat w] } := by
 have h1 := hp.len2 hU
 have h2 := hw.len
 refine c_MulS p w _ _ _ _ hp.pb hw.pb (PQ.fit (by omega)) (PW.fit (by omega) (by omega)) (fit_of (by omega) (by omega) (by omega)) (hp.ok (by omega)) (fun t ht => (hw.ex t ht).ok (by omega)) ?_ (by omega) (by omega)
 calc p.length * w.length ≤ 1002001 * 4 := Nat.mul_le_mul h1 h2
  _ < 549755813888 := by decide
theorem c_AddW (U : Nat) (p q w : List Tm) (hU : U ≤ 1000) (hp : PQ U p) (hq : PQ U q) (hw : PW 360 w) : CT 46 [pdat p, pdat (pmul q w)] { val := .sl 11 (ps (padd p (pmul q w))), args := [pdat p, pdat (pmul q w)] } := by
 obtain ⟨h1, h2⟩ := hq.mulw hw
 have h3 := hp.len2 hU
 have h4 := (Ex.len (pmul_Cn q w) h2)
 have h5 : (pmul q w).length ≤ 1004004 := Nat.le_trans h4 (Nat.mul_le_mul (show U + 1 + 1 ≤ 1002 by omega) (show U + 1 + 1 ≤ 1002 by omega))
 refine c_AddS p (pmul q w) (120 ^ U * 120) (480 ^ U * 120) (480 ^ U * 360) (hp.pb.scale (by omega)) h1 ?_ (by omega)
 rw [← Nat.mul_add]
 exact fit_of (by omega) (by omega) (by omega)
theorem psl_at (m : List (List Tm)) {i : Nat} (h : i < m.length) : at_ (psl m) i = .sl 11 (ps (gl m i)) := by simp [at_, psl, gl, List.getD, h]
theorem psl_set (m : List (List Tm)) (i : Nat) (p : List Tm) : (psl m).set i (.sl 11 (ps p)) = psl (m.set i p) := by simp [psl, List.map_set]
theorem psl_rep (n : Nat) : List.replicate n (AV.sl 11 []) = psl (List.replicate n []) := by simp [psl, ps]
abbrev wsO (ds : List (Int × List (List Tm))) : List (List (List Tm)) := ds.map (·.2)
theorem dsc_at (ds : List (Int × List (List Tm))) {i : Nat} (h : i < ds.length) : at_ (dscs ds) i = .agg [iv .i64 1, iv .i64 (ds.getD i (0, [])).1, iv .i64 0, .sl 1 (psl ((wsO ds).getD i [])), bv false, .sl 1 [], .sl 1 [], bv false, .sl 1 [], .sl 1 []] := by
 simp [at_, dscs, dsc, List.getD, h]
structure Rin (t : Tr) (ds : List (Int × List (List Tm))) : Prop where
 ok : Ok wid t
 sz : t.sz ≤ 60
 sb : sd ds.length t
 w : WOK (wsO ds)
 dl : ds.length < 100
theorem sd_enum {n : Nat} {t : Tr} (h : sd n t) : ∀ x ∈ enum t [], sd n x := enum_all (P := sd n) (fun _ h => sd_kid h) h (fun _ h => by cases h)
theorem Rin.all {t : Tr} {ds : List (Int × List (List Tm))} (h : Rin t ds) : (∀ x ∈ enum t [], Ok wid x ∧ sd ds.length x ∧ SmT x) ∧ (enum t []).length ≤ 60 ∧ Clo (enum t []) ∧ 0 < (enum t []).length := by
 refine ⟨fun x hx => ?_, ?_, enum_clo .nil, List.length_pos_of_mem (mem_enum t [])⟩
 ·have h1 := h.ok.enum (l := []) (fun _ h => by cases h) x hx
  have h2 := sd_enum h.sb x hx
  refine ⟨h1, h2, ?_⟩
  have hdl := h.dl
  cases h1 with
  | lf a b => rw [sd] at h2; exact ⟨by simp [kidsOf], by simp [siteOf], by simp only [valOf, sml]; omega⟩
  | br a b c d e f g => rw [sd] at h2; exact ⟨by simp only [kidsOf]; omega, by simp only [siteOf]; omega, by simp only [valOf, sml]; omega⟩
 ·have := enum_len t []
  have := h.sz
  simp only [List.length_nil] at *
  omega
@[go_sem] abbrev ddat (ds : List (Int × List (List Tm))) : PA := .data (.sl 10 (dscs ds))
theorem c_Check (t : Tr) (ds : List (Int × List (List Tm))) (h : Rin t ds) : CT 42 [dgt (enum t []), ddat ds] { val := iv .i64 0, args := [dgt (enum t []), ddat ds] } := by
 obtain ⟨hx, hn, hc, h0⟩ := h.all
 have hv := c_Validate wid t h.ok (by have := h.sz; omega) (fun x hxx => (hx x hxx).2.2)
 have hw := h.w
 have hdl := h.dl
 clear h
 generalize enum t [] = E at *
 have hnl := nds_length E
 have hdn := dsc_len ds
 refine Ctr.intro ⟨Tryz.f42, _, Tryz.call42, Tryz.func42, fold_body (by rfl) (by kernel_rfl), (by simp [Tryz.ntmps42]), (by simp), (by kernel_rfl), ?_⟩
 refine wks ?_
 refine wk0 ?_
 refine callI (hv) ?_
 refine wk0 ?_
 refine run_loop [1, 18, 19, 20] [] (α := {i : Nat // i ≤ E.length}) (fun i => ⟨[(1, .sl 10 (dscs ds)), (18, .sl 3 (ns (nds E))), (19, iv .i64 E.length), (20, iv .i64 i.1)], []⟩) (fun i => E.length - i.1) ⟨0, Nat.zero_le _⟩ (by first | rfl | simp [tc, qc]) ?_
 rintro ⟨i, hi⟩
 refine wk0 ?_
 refine condK.dec (fun hlt => ?_) (fun hlt => ?_)
 ·have hi2 : i < E.length := by omega
  have hg := gn_nds hi2
  obtain ⟨h1, h2, h3⟩ := hx _ (List.getElem_mem hi2)
  generalize E[i] = x at *
  cases x with
  | lf v =>
   have hnd : nd E (.lf v) = ⟨-1, v, []⟩ := rfl
   rw [hnd] at hg
   refine wk1 @hg ?_
   exact ⟨⟨i + 1, by omega⟩, (by first | rfl | simp [tc, qc]), by simp only; omega⟩
  | br s ks =>
   have hkn : (nd E (.br s ks)).kids.length = ks.length := nd_klen E (.br s ks)
   have hsv : (nd E (.br s ks)).site = (s : Int) := rfl
   have hks : ks.length = wid s := by cases h1; assumption
   rw [sd] at h2
   have hat := dsc_at ds h2.1
   have hwl := hw.len s (by rw [List.length_map]; exact h2.1)
   have hwp := hw.pw s
   generalize (wsO ds).getD s [] = Q at *
   have hql := psl_len Q
   have hwb := wid_bd s
   refine wk3 @hg @hsv @hat ?_
   refine vcalm (by kernel_rfl) ?_
   refine wk5 @hg @hsv @hat @kidsOf_br @hql ?_
   refine run_loop [1, 18, 19, 20, 59, 60, 61] [] (α := {k : Nat // k ≤ Q.length}) (fun k => ⟨[(1, .sl 10 (dscs ds)), (18, .sl 3 (ns (nds E))), (19, iv .i64 E.length), (20, iv .i64 i), (59, .sl 1 (psl Q)), (60, iv .i64 Q.length), (61, iv .i64 k.1)], []⟩) (fun k => Q.length - k.1) ⟨0, Nat.zero_le _⟩ (by first | rfl | simp [tc, qc]) ?_
   rintro ⟨k, hk⟩
   refine wk0 ?_
   refine condK.dec (fun hk2 => ?_) (fun hk2 => ?_)
   ·have hkq : k < Q.length := by omega
    have hpa := psl_at Q hkq
    have hcn := c_NormW (gl Q k) (hwp _ (by unfold gl; rw [List.getD_eq_getElem?_getD, List.getElem?_eq_getElem hkq]; exact List.getElem_mem hkq))
    refine wk1 @hpa ?_
    refine callI (hcn) ?_
    refine wk0 ?_
    exact ⟨⟨k + 1, by omega⟩, (by first | rfl | simp [tc, qc]), by simp only; omega⟩
   ·refine wk0 ?_
    exact ⟨⟨i + 1, by omega⟩, (by first | rfl | simp [tc, qc]), by simp only; omega⟩
 ·refine wk0 ?_
  simp [VC]
end Go.Proofs.YteipiejlljnclaaGreatDoor
