/- CountConditions: Product, the law's walk. Conditions stand in each. -/
import Derived.Test.YteipiejlljnclaaGreatDoorQLa
import Derived.Test.YteipiejlljnclaaGreatDoorQKh
set_option linter.unusedVariables false
set_option linter.unusedSimpArgs false
set_option maxRecDepth 10000
set_option maxHeartbeats 8000000
namespace Go.Proofs.YteipiejlljnclaaGreatDoor
open Go Go.AL
attribute [local irreducible] run opK opD callK
attribute [local go_sem] not_true_eq_false not_false_eq_true decide_false psl_len dsc_len
attribute [local simp] keep keepEnv keepRows keepAV keepPl keepBody keepElems keepElem keepCells lget inL normG mc_keep mc_keep0
theorem nrm_filter (D : Nat) (f : Tm → Bool) : ∀ p : List Tm, nrm D (p.filter f) ≤ nrm D p
 | [] => Nat.le_refl _
 | t :: p => by
  have ih := nrm_filter D f p
  rw [List.filter_cons]
  split <;> simp only [nrm] <;> omega
theorem ptimes_PB {D E M N : Nat} {p : List Tm} {t : Tm} (h : PB D M p) (h' : PB E N [t]) : PB (D * E) (M * N) (ptimes p t) := by
 have h1 := h.prods h'
 have e : ∀ p : List Tm, prods p [t] = p.map fun s => (s.1.add t.1, s.2 * t.2) := by
  intro p
  induction p with
  | nil => rfl
  | cons s p ih =>
   have : prods (s :: p) [t] = (s.1.add t.1, s.2 * t.2) :: prods p [t] := rfl
   rw [this, ih]; rfl
 rw [e] at h1
 unfold ptimes
 exact ⟨h1.pos, fun x hx => h1.den x (List.mem_filter.1 hx).1, Nat.le_trans (nrm_filter _ _ _) h1.le⟩
theorem pmul_next (p q : List Tm) {i : Nat} (h : i < q.length) : padd (pmul p (q.take i)) (ptimes p (gp q i)) = pmul p (q.take (i + 1)) := (padd_Cn _ _).ext (pmul_Cn _ _) fun F => by
 rw [padd_L, pmul_L, pmul_L, ptimes_L, gp_take h, ← L_add]
 congr 1
 funext a
 rw [L_append]
 show _ = _ + ((gp q i).2 * F (a.add (gp q i).1) + 0)
 rw [Rat.add_zero]
theorem c_Prod (U : Nat) (p q : List Tm) (hU : U ≤ 1000) (hp : PW 360 p) (hq : PQ U q) : CT 27 [pdat p, pdat q] { val := .sl 11 (ps (pmul p q)), args := [pdat p, pdat q] } := by
 have hfit : Fit (120 * 120 ^ U) (360 * 480 ^ U) := by
  rw [Nat.mul_comm 120, Nat.mul_comm 360]
  exact fit_of (by omega) (by omega) (by omega)
 have hlq := hq.len2 hU
 have hlp := hp.len
 have hz : pmul p (q.take 0) = [] := by rw [List.take_zero, pmul_nil]
 have hT : ∀ i, i < q.length → CT 67 [pdat p, tdat (gp q i)] { val := .sl 11 (ps (ptimes p (gp q i))), args := [pdat p, tdat (gp q i)] } := by
  intro i hi
  have hg := gp_mem hi
  refine c_Times p (gp q i) (fun s hs => ⟨(hp.ex s hs).ok (by omega), hp.pb.qz (PW.fit (by omega) (by omega)) hs, ?_⟩) ((hq.ex _ hg).ok (by omega)) (hq.qz (by omega) _ hg) (by omega)
  have := (hp.pb.prods hq.pb).qz hfit (t := (s.1.add (gp q i).1, s.2 * (gp q i).2)) (List.mem_flatMap.2 ⟨s, hs, List.mem_map.2 ⟨_, hg, rfl⟩⟩)
  exact this
 have hS : ∀ i, i < q.length → CT 22 [pdat (pmul p (q.take i)), pdat (ptimes p (gp q i))] { val := .sl 11 (ps (pmul p (q.take (i + 1)))), args := [pdat (pmul p (q.take i)), pdat (ptimes p (gp q i))] } := by
  intro i hi
  have n1 := nrm_take_succ (D := 120 ^ U) hi
  have n2 := nrm_take_le (D := 120 ^ U) q (i + 1)
  have n3 := hq.pb.le
  have hg := gp_mem hi
  have b1 := hp.pb.pmul (hq.pb.take i)
  have b2 := ptimes_PB hp.pb (PB.one (t := gp q i) hq.pb.pos (hq.pb.den _ hg))
  have hex : ∀ t ∈ pmul p (q.take i), Ex (U + 1) t.1 := pmul_all (P := Ex 1) (Q := Ex U) (fun a b ha hb => (Ex.add ha hb).mono (by omega)) hp.ex fun t ht => hq.ex t (List.mem_of_mem_take ht)
  have hln := Ex.len (pmul_Cn p (q.take i)) hex
  have hln2 : (pmul p (q.take i)).length ≤ 1004004 := Nat.le_trans hln (Nat.mul_le_mul (show U + 1 + 1 ≤ 1002 by omega) (show U + 1 + 1 ≤ 1002 by omega))
  have hpl := ptimes_length p (gp q i)
  have := c_Sum (pmul p (q.take i)) (ptimes p (gp q i)) _ _ _ (pmul_Cn _ _) b1 b2 (hfit.le (by rw [← Nat.mul_add]; exact Nat.mul_le_mul_left _ (by omega))) (by omega)
  rwa [pmul_next p q hi] at this
 refine Ctr.intro ⟨Tryz.f27, _, Tryz.call27, Tryz.func27, fold_body (by rfl) (by kernel_rfl), (by simp [Tryz.ntmps27]), (by simp), (by kernel_rfl), ?_⟩
 refine wks ?_
 refine wk0 ?_
 refine run_loop [0, 1, 5, 6] [5] (α := {i : Nat // i ≤ q.length})
  (fun i => match i.1 with
   | 0 => ⟨[(0, .sl 11 (ps p)), (1, .sl 11 (ps q)), (5, .hs ⟨5, 1⟩ 0 0), (6, iv .i64 0)], [(5, ⟨1, true, false, .cells 11 []⟩)]⟩
   | i + 1 => ⟨[(0, .sl 11 (ps p)), (1, .sl 11 (ps q)), (5, .sl 11 (ps (pmul p (q.take (i + 1))))), (6, iv .i64 ((i : Int) + 1))], [(5, ⟨1, false, false, .cells 11 []⟩)]⟩) (fun i => q.length - i.1) ⟨0, Nat.zero_le _⟩ (by first | rfl | simp [tc, qc]) ?_
 rintro ⟨i, hi⟩
 cases i with
 | zero =>
  simp only
  refine wk0 ?_
  refine condK.dec (fun h => ?_) (fun h => ?_)
  ·have h1 := hT 0 (by omega)
   have h2 := hS 0 (by omega)
   rw [hz] at h2
   refine wk0 ?_
   refine callI (h1) ?_
   refine wk0 ?_
   refine callI (h2) ?_
   refine wk0 ?_
   exact ⟨⟨1, by omega⟩, (by first | rfl | simp [tc, qc]), by simp only; omega⟩
  ·have hq0 : q = [] := List.eq_nil_of_length_eq_zero (by omega)
   subst hq0
   rw [pmul_nil]
   refine wk0 ?_
   exact ⟨by simp [ps], trivial⟩
 | succ i =>
  simp only
  refine wk0 ?_
  refine condK.dec (fun h => ?_) (fun h => ?_)
  ·have h1 := hT (i + 1) (by omega)
   have h2 := hS (i + 1) (by omega)
   refine wk0 ?_
   refine callI (h1) ?_
   refine wk0 ?_
   refine callI (h2) ?_
   refine wk0 ?_
   exact ⟨⟨i + 1 + 1, by omega⟩, (by first | rfl | simp [tc, qc]), by simp only; omega⟩
  ·have hiq : i + 1 = q.length := by omega
   have e2 : q.take (i + 1) = q := by rw [hiq, List.take_length]
   rw [e2]
   refine wk0 ?_
   trivial
theorem c_SumW (U : Nat) (p q w : List Tm) (hU : U ≤ 1000) (hp : PQ U p) (hq : PQ U q) (hw : PW 360 w) : CT 22 [pdat p, pdat (pmul w q)] { val := .sl 11 (ps (padd p (pmul w q))), args := [pdat p, pdat (pmul w q)] } := by
 rw [pmul_comm w q]
 obtain ⟨h1, h2⟩ := hq.mulw hw
 have h3 := hp.len2 hU
 have h4 := (Ex.len (pmul_Cn q w) h2)
 have h5 : (pmul q w).length ≤ 1004004 := Nat.le_trans h4 (Nat.mul_le_mul (show U + 1 + 1 ≤ 1002 by omega) (show U + 1 + 1 ≤ 1002 by omega))
 refine c_Sum p (pmul q w) (120 ^ U * 120) (480 ^ U * 120) (480 ^ U * 360) hp.cn (hp.pb.scale (by omega)) h1 ?_ (by omega)
 rw [← Nat.mul_add]
 exact fit_of (by omega) (by omega) (by omega)
noncomputable def cds (t : Tr) (ds : List (Int × List (List Tm))) (site : Nat) : Nat → List Tm
 | 0 => []
 | i + 1 => padd (cds t ds site i) (pmul (wt (wsO ds) site i) (exq (rs site i t) ds))
theorem cds_Cn (t : Tr) (ds : List (Int × List (List Tm))) (site : Nat) : ∀ n, Cn (cds t ds site n)
 | 0 => Cn.nil
 | n + 1 => padd_Cn _ _
theorem cds_L (t : Tr) (ds : List (Int × List (List Tm))) (site : Nat) (F : Mo → Rat) : ∀ n, L (cds t ds site n) F = tot (fun o => L (wt (wsO ds) site o) fun a => ev (wt (wsO ds)) (fun v => (v : Rat)) (rs site o t) fun b => F (a.add b)) n
 | 0 => rfl
 | n + 1 => by
  rw [cds, tot, padd_L, cds_L t ds site F n, pmul_L]
  simp only [exq_L]
theorem Rin.rs {t : Tr} {ds : List (Int × List (List Tm))} (h : Rin t ds) {site o : Nat} (ho : o < wid site) : Rin (rs site o t) ds :=
 ⟨rs_ok h.ok ho, Nat.le_trans (rs_sz h.ok ho) h.sz, rs_sd h.ok ho h.sb, h.w, h.dl⟩
theorem cds_PQ {t : Tr} {ds : List (Int × List (List Tm))} (h : Rin t ds) (site : Nat) : ∀ n, n ≤ wid site → PQ (242 + n) (cds t ds site n)
 | 0, _ => PQ.nil _
 | n + 1, hn => by
  rw [cds, pmul_comm]
  exact (cds_PQ h site n (by omega)).step (Nat.le_refl _) ((h.rs (show n < wid site by omega)).exqQ.mono (Nat.le_add_right 242 n)) (wt_PW h.w site n)
theorem cds_all {t : Tr} {ds : List (Int × List (List Tm))} (h : Rin t ds) {site : Nat} (hs : site < ds.length) : cds t ds site (wid site) = exq t ds := by
 refine (cds_Cn _ _ _ _).ext (exq_Cn _ _) fun F => ?_
 rw [cds_L, exq_L]
 exact ev_cond h.w (by rw [List.length_map]; exact hs) h.ok (by rw [List.length_map]; exact h.sb) F
theorem c_Conditions (l : List Int) (hl : l.length < 4611686018427387904) : CT 6 [idat l] { val := .sc (.bool true), args := [idat l] } := by
 have hn := c_New l hl
 have hlt : (l.take 1000).length < 4611686018427387904 := by rw [List.length_take]; omega
 generalize l.take 1000 = k at *
 have hin := dT_in k
 have hDl : (dD k).length = 4 := dst_len _ _ _ _
 have hdi : CT 20 [sp k 0, .data (iv .i64 0), .data (iv .i64 3)] { val := dg (dT k), args := [sp k (dia k 4 0 0).2, .data (iv .i64 0), .data (iv .i64 3)] } := c_Diagram k hlt 3 (by omega) 4 0 0 (by omega) (Nat.zero_le _)
 have hle := (dia_ok k 4 0 0 (by omega) (Nat.zero_le _)).2.2.1
 have hds : CT 21 [sp k (dia k 4 0 0).2, .data (iv .i64 4), .data (iv .i64 2)] { val := .sl 10 (dscs (dD k)), args := [sp k (dst k (dia k 4 0 0).2 2 4).2, .data (iv .i64 4), .data (iv .i64 2)] } := c_Dists k _ 4 2 hlt hle (by omega) (by omega)
 have hle2 := dst_le k (dia k 4 0 0).2 2 hle (by omega) 4
 have hN : CT 24 [sp k (dst k (dia k 4 0 0).2 2 4).2, .data (iv .i64 4)] { val := iv .i64 ((rdN k (dst k (dia k 4 0 0).2 2 4).2 4).1 : Nat), args := [sp k (rdN k (dst k (dia k 4 0 0).2 2 4).2 4).2, .data (iv .i64 4)] } := c_N k _ 4 hlt hle2 (by omega) (by omega)
 have hN4 := rdN_lt k (dst k (dia k 4 0 0).2 2 4).2 (n := 4) (by omega)
 obtain ⟨site, hsite⟩ : ∃ s, s = (rdN k (dst k (dia k 4 0 0).2 2 4).2 4).1 := ⟨_, rfl⟩
 rw [← hsite] at hN hN4
 clear hle hle2 hsite
 unfold dg at hdi
 generalize dT k = t at *
 generalize dD k = D at *
 generalize (rdN k (dst k (dia k 4 0 0).2 2 4).2 4).2 = b3 at *
 generalize (dst k (dia k 4 0 0).2 2 4).2 = b2 at *
 generalize (dia k 4 0 0).2 = b1 at *
 have hall := cds_all hin (site := site) (by omega)
 have hex := c_Expect t D hin
 have hrs := fun o ho => c_Restrict t D hin site o (by omega) ho
 have hexr := fun o (ho : o < wid site) => c_Expect (rs site o t) D (hin.rs ho)
 have hexq := fun o (ho : o < wid site) => (hin.rs ho).exqQ
 have hPQ := cds_PQ hin site
 have hwid := c_Width site (by omega)
 have hwb := wid_bd site
 have hW := wt_PW hin.w site
 have hwl := hin.w.len site (by rw [List.length_map]; omega)
 have hat := dsc_at D (i := site) (by omega)
 have hwe : ∀ o, gl ((wsO D).getD site []) o = wt (wsO D) site o := fun _ => rfl
 have hxq := hin.exqQ
 have hz : cds t D site 0 = [] := rfl
 clear hin
 have hql := psl_len ((wsO D).getD site [])
 have hpa := fun o (ho : o < wid site) => psl_at ((wsO D).getD site []) (i := o) (by omega)
 simp only [hwe] at hpa
 generalize (wsO D).getD site [] = Q at *
 have hcs : ∀ o, cds t D site (o + 1) = padd (cds t D site o) (pmul (wt (wsO D) site o) (exq (rs site o t) D)) := fun _ => rfl
 refine Ctr.intro ⟨Tryz.f6, _, Tryz.call6, Tryz.func6, fold_body (by rfl) (by kernel_rfl), (by simp [Tryz.ntmps6]), (by simp), (by kernel_rfl), ?_⟩
 refine wks ?_
 refine wk0 ?_
 refine callI (hn) ?_
 refine wk0 ?_
 refine callI (hdi) ?_
 refine wk0 ?_
 refine callI (hds) ?_
 refine wk0 ?_
 refine callI (hN) ?_
 refine wk0 ?_
 refine callI (hex) ?_
 refine wk0 ?_
 refine run_loop [4, 5, 6, 7, 9, 10] [4, 9] (α := {i : Nat // i ≤ wid site})
  (fun i => match i.1 with
   | 0 => ⟨[(4, .hp ⟨4, 1⟩ 0 0), (5, .sl 10 (dscs D)), (6, iv .i64 site), (7, .sl 11 (ps (exq t D))), (9, .hs ⟨9, 1⟩ 0 0), (10, iv .i64 0)], [(4, ⟨1, true, true, .cells 1 [.agg [.sl 3 (ns (nds (enum t [])))]]⟩), (9, ⟨1, true, false, .cells 11 []⟩)]⟩
   | i + 1 => ⟨[(4, .hp ⟨4, 1⟩ 0 0), (5, .sl 10 (dscs D)), (6, iv .i64 site), (7, .sl 11 (ps (exq t D))), (9, .sl 11 (ps (cds t D site (i + 1)))), (10, iv .i64 ((i : Int) + 1))], [(4, ⟨1, true, true, .cells 1 [.agg [.sl 3 (ns (nds (enum t [])))]]⟩), (9, ⟨1, false, false, .cells 11 []⟩)]⟩) (fun i => wid site - i.1) ⟨0, Nat.zero_le _⟩ (by first | rfl | simp [tc, qc]) ?_
 rintro ⟨i, hi⟩
 cases i with
 | zero =>
  simp only
  refine wk0 ?_
  refine callI (hwid) ?_
  have hi6 : 0 < wid site := by omega
  have f1 := hrs (0) hi6
  have f2 := hexr (0) hi6
  have f3 := c_Normalp (wt (wsO D) site (0)) 120 360 (hW (0)).pb (PW.fit (by omega) (by omega)) (by have := (hW (0)).len; omega)
  rw [(hW (0)).cn.nf] at f3
  have f4 := c_Prod 242 (wt (wsO D) site (0)) (exq (rs site (0) t) D) (by omega) (hW (0)) (hexq (0) hi6)
  have f5 := c_SumW (242 + (0)) (cds t D site (0)) (exq (rs site (0) t) D) (wt (wsO D) site (0)) (by omega) (hPQ (0) (by omega)) ((hexq (0) hi6).mono (by omega)) (hW (0))
  have f6 := hpa (0) hi6
  rw [← hcs (0)] at f5
  clear hrs hexr hexq hPQ hW hpa
  unfold dg at f1
  rw [hz] at f5
  refine wk0 ?_
  refine callI (f1) ?_
  refine wk0 ?_
  refine callI (f2) ?_
  refine wk4 @hat @f6 @hwl @hql ?_
  refine callI (f3) ?_
  refine wk4 @hat @f6 @hwl @hql ?_
  refine callI (f4) ?_
  refine wk0 ?_
  refine callI (f5) ?_
  refine wk0 ?_
  exact ⟨⟨0 + 1, by omega⟩, (by first | rfl | simp [tc, qc]), by simp only <;> omega⟩
 | succ i =>
  simp only
  refine wk0 ?_
  refine callI (hwid) ?_
  refine wk0 ?_
  refine condK.dec (fun h => ?_) (fun h => ?_)
  ·have hi6 : i + 1 < wid site := by omega
   have f1 := hrs (i + 1) hi6
   have f2 := hexr (i + 1) hi6
   have f3 := c_Normalp (wt (wsO D) site (i + 1)) 120 360 (hW (i + 1)).pb (PW.fit (by omega) (by omega)) (by have := (hW (i + 1)).len; omega)
   rw [(hW (i + 1)).cn.nf] at f3
   have f4 := c_Prod 242 (wt (wsO D) site (i + 1)) (exq (rs site (i + 1) t) D) (by omega) (hW (i + 1)) (hexq (i + 1) hi6)
   have f5 := c_SumW (242 + (i + 1)) (cds t D site (i + 1)) (exq (rs site (i + 1) t) D) (wt (wsO D) site (i + 1)) (by omega) (hPQ (i + 1) (by omega)) ((hexq (i + 1) hi6).mono (by omega)) (hW (i + 1))
   have f6 := hpa (i + 1) hi6
   rw [← hcs (i + 1)] at f5
   clear hrs hexr hexq hPQ hW hpa
   unfold dg at f1
   skip
   refine wk0 ?_
   refine callI (f1) ?_
   refine wk0 ?_
   refine callI (f2) ?_
   refine wk4 @hat @f6 @hwl @hql ?_
   refine callI (f3) ?_
   refine wk4 @hat @f6 @hwl @hql ?_
   refine callI (f4) ?_
   refine wk0 ?_
   refine callI (f5) ?_
   refine wk0 ?_
   exact ⟨⟨i + 1 + 1, by omega⟩, (by first | rfl | simp [tc, qc]), by simp only <;> omega⟩
  ·have e : i + 1 = wid site := by omega
   rw [e, hall]
   have hsa := c_Samep (exq t D) (exq t D) (hxq.qz (by omega)) (hxq.qz (by omega)) (by have := hxq.len2 (by omega); omega) (by have := hxq.len2 (by omega); omega)
   rw [decide_eq_true rfl] at hsa
   refine wk0 ?_
   refine callI (hsa) ?_
   refine wk0 ?_
   refine callI (c_awake) ?_
   refine wk0 ?_
   simp [VC]
end Go.Proofs.YteipiejlljnclaaGreatDoor
