/- The program's restriction of a diagram (diagram.Restrict). Conditions stand in each. -/
import Derived.Test.YteipiejlljnclaaGreatDoorQKb
import Derived.Test.YteipiejlljnclaaGreatDoorQKg
set_option linter.unusedVariables false
set_option linter.unusedSimpArgs false
set_option maxRecDepth 10000
set_option maxHeartbeats 16000000
namespace Go.Proofs.YteipiejlljnclaaGreatDoor
open Go Go.AL
attribute [local irreducible] run opK opD callK
attribute [local go_sem] not_true_eq_false not_false_eq_true decide_false psl_len dsc_len
attribute [local simp] keep keepEnv keepRows keepAV keepPl keepBody keepElems keepElem keepCells lget inL normG mc_keep mc_keep0
theorem c_TBrS (l : List Nd) (s : Int) (k : List Int) (hkl : k.length < 1000000) (h0 : 0 < k.length) (hd : ∀ x ∈ k, x = gi k 0) :
  CT 65 [tp l, .data (iv .i64 s), idat k] { val := iv .i64 (gi k 0), args := [tp l, .data (iv .i64 s), idat k] } := by
 have hg : ∀ j, j < k.length → gi k j = gi k 0 := fun j hj => hd _ (by
  have : gi k j = k[j] := by simp [gi, List.getD, hj]
  rw [this]; exact List.getElem_mem hj)
 refine Ctr.intro ⟨Tryz.f65, _, Tryz.call65, Tryz.func65, fold_body (by rfl) (by kernel_rfl), (by simp [Tryz.ntmps65]), (by simp), (by kernel_rfl), ?_⟩
 refine wks ?_
 refine wk0 ?_
 refine run_loop [0, 1, 2, 9, 10, 11] [0, 10000000, 20000000] (α := {i : Nat // i ≤ k.length})
  (fun i => ⟨[(0, .hp ⟨0, 0⟩ 0 0), (1, iv .i64 s), (2, .sl 1 (ints k)), (9, .sl 1 (ints k)), (10, iv .i64 k.length), (11, iv .i64 i.1)],
   [(0, ⟨0, true, true, .cells 2 [.agg [.hs ⟨10000000, 0⟩ 0 l.length, .hm ⟨20000000, 0⟩]]⟩), (10000000, ⟨0, true, false, .cells 3 (ns l)⟩), (20000000, ⟨0, true, false, .map .str (entL l)⟩)]⟩)
  (fun i => k.length - i.1) ⟨0, Nat.zero_le _⟩ (by first | rfl | simp [tc, qc]) ?_
 rintro ⟨i, hi⟩
 refine wk0 ?_
 refine condK.dec (fun h => ?_) (fun h => ?_)
 ·have hgi := hg i (by omega)
  refine wk1 @hgi ?_
  exact ⟨⟨i + 1, by omega⟩, (by first | rfl | simp [tc, qc]), by simp only; omega⟩
 ·refine wk0 ?_
  simp [memOut, lget, VC, packOut, packKeys, cellsOf, cellKeys, disjB, inL, AV.isAgg, cellOut, ns_len, ns_take, List.take_of_length_le]
theorem c_TBr (U : List Tr) (s : Nat) (ks : List Tr) (hc : Clo U) (hsm : ∀ t ∈ U, SmT t) (hl : U.length < 100) (hk : ∀ k ∈ ks, k ∈ U) (h0 : 0 < ks.length) (hk3 : ks.length < 1000) (hs : s < 64) :
  CT 65 [tpt U, .data (iv .i64 (s : Nat)), idat (ks.map fun k => (ix U k : Int))] { val := iv .i64 (ix (insM U s ks) (mkbr s ks) : Nat), args := [tpt (insM U s ks), .data (iv .i64 (s : Nat)), idat (ks.map fun k => (ix U k : Int))] } := by
 have hUs := sml_nds hc hsm hl
 by_cases h : same ks
 ·have hall : ∀ x ∈ (ks.map fun k => (ix U k : Int)), x = gi (ks.map fun k => (ix U k : Int)) 0 := by
   intro x hx
   obtain ⟨y, hy, rfl⟩ := List.mem_map.1 hx
   cases ks with
   | nil => simp at h0
   | cons a ks =>
    have e : y = a := (List.mem_cons.1 hy).elim id (h y)
    rw [e]; simp [gi]
  have hcl := c_TBrS (nds U) s (ks.map fun k => (ix U k : Int)) (by rw [List.length_map]; omega) (by rw [List.length_map]; omega) hall
  have e1 : insM U s ks = U := by unfold insM; rw [if_pos h]
  have e2 : mkbr s ks = ks.headD (.lf 0) := by unfold mkbr; rw [if_pos h]
  have e3 : gi (ks.map fun k => (ix U k : Int)) 0 = (ix U (ks.headD (.lf 0)) : Nat) := by
   cases ks with
   | nil => simp at h0
   | cons a ks => simp [gi]
  rw [e1, e2]
  rw [e3] at hcl
  exact hcl
 ·have hcl := c_TBranch (nds U) s (ks.map fun k => (ix U k : Int)) hUs ⟨by omega, by omega⟩ (fun x hx => by
   obtain ⟨k, hkk, rfl⟩ := List.mem_map.1 hx
   have := ix_lt (hk k hkk)
   exact ⟨by omega, by omega⟩) (by rw [nds_length]; omega) (by rw [List.length_map]; omega) (not_same hk h)
  obtain ⟨a1, a2⟩ := addL_nd (U := U) (t := .br s ks) hc hk
  have hnd : nd U (.br s ks) = ⟨s, 0, ks.map fun k => (ix U k : Int)⟩ := rfl
  rw [hnd] at a1 a2
  have e1 : insM U s ks = insT U (.br s ks) := by unfold insM; rw [if_neg h]
  rw [a1, a2] at hcl
  rw [e1, mkbr_br h]
  exact hcl
noncomputable def rT (site o : Nat) (U : List Tr) : Tr → List Tr
 | .lf v => insT U (.lf v)
 | .br s ks => if s = site then U else insM U s (ks.map (rs site o))
noncomputable def rU (l : List Tr) (site o : Nat) : Nat → List Tr
 | 0 => []
 | i + 1 => rT site o (rU l site o i) (gt l i)
noncomputable def rA (l : List Tr) (U : List Tr) (site o i : Nat) : List Int := ((l.take i).map fun x => (ix U (rs site o x) : Int)) ++ List.replicate (l.length - i) 0
theorem insM_pre (U : List Tr) (s : Nat) (ks : List Tr) : U <+: insM U s ks := by
 unfold insM
 split
 ·exact List.prefix_refl _
 ·exact ins_pre _ _
theorem insM_len (U : List Tr) (s : Nat) (ks : List Tr) : (insM U s ks).length ≤ U.length + 1 := by
 unfold insM
 split
 ·omega
 ·exact ins_len _ _
theorem mkbr_in {U : List Tr} {s : Nat} {ks : List Tr} (hk : ∀ k ∈ ks, k ∈ U) (h0 : 0 < ks.length) : mkbr s ks ∈ insM U s ks := by
 unfold mkbr insM
 split
 ·cases ks with
  | nil => simp at h0
  | cons a ks => exact hk a (.head _)
 ·exact mem_ins _ _
theorem insM_clo {U : List Tr} {s : Nat} {ks : List Tr} (h : Clo U) (hk : ∀ k ∈ ks, k ∈ U) : Clo (insM U s ks) := by
 unfold insM
 split
 ·exact h
 ·exact ins_clo h hk
theorem insM_nod {U : List Tr} {s : Nat} {ks : List Tr} (h : U.Nodup) : (insM U s ks).Nodup := by
 unfold insM
 split
 ·exact h
 ·exact ins_nodup h
theorem insM_all {p : Tr → Prop} {U : List Tr} {s : Nat} {ks : List Tr} (h : ∀ t ∈ U, p t) (hb : p (.br s ks)) : ∀ t ∈ insM U s ks, p t := by
 unfold insM
 split
 ·exact h
 ·intro t ht
  exact (ins_sub ht).elim (h t) fun e => e ▸ hb
theorem rs_kids {site o : Nat} {s : Nat} {ks : List Tr} (e : s ≠ site) : rs site o (.br s ks) = mkbr s (ks.map (rs site o)) := by rw [rs_br, if_neg e]
theorem rs_at {site o : Nat} {ks : List Tr} (h : o < ks.length) : rs site o (.br site ks) = rs site o (gt ks o) := by rw [rs_br, if_pos rfl, gt_map h]
structure RI (l : List Tr) (site o i : Nat) : Prop where
 clo : Clo (rU l site o i)
 nod : (rU l site o i).Nodup
 len : (rU l site o i).length ≤ i
 sm : ∀ t ∈ rU l site o i, SmT t
 mem : ∀ x ∈ l.take i, rs site o x ∈ rU l site o i
theorem RI.step {l : List Tr} {site o i : Nat} (h : RI l site o i) (hc : Clo l) (hi : i < l.length) (hok : Ok wid (gt l i)) (hsm : SmT (gt l i)) (ho : o < wid site) : RI l site o (i + 1) ∧ rU l site o i <+: rU l site o (i + 1) := by
 have hk : ∀ k ∈ kidsOf (gt l i), rs site o k ∈ rU l site o i := fun k hk => h.mem k (by
  rw [gt_eq hi] at hk
  exact hc.at hi k hk)
 have hm : ∀ V, rU l site o i <+: V → rs site o (gt l i) ∈ V → ∀ x ∈ l.take (i + 1), rs site o x ∈ V := by
  intro V hp hx x hxx
  rw [take_gt hi] at hxx
  rcases List.mem_append.1 hxx with hxx | hxx
  ·exact hp.subset (h.mem x hxx)
  ·rw [List.mem_singleton.1 hxx]; exact hx
 have hlen := h.len
 cases hg : gt l i with
 | lf v =>
  rw [hg] at hsm hm
  have e : rU l site o (i + 1) = insT (rU l site o i) (.lf v) := by rw [rU, hg, rT]
  have hp := ins_pre (rU l site o i) (.lf v)
  refine ⟨⟨?_, ?_, ?_, ?_, ?_⟩, by rw [e]; exact hp⟩
  ·rw [e]; exact ins_clo h.clo (by simp [kidsOf])
  ·rw [e]; exact ins_nodup h.nod
  ·rw [e]; have := ins_len (rU l site o i) (.lf v); omega
  ·rw [e]; exact fun t ht => (ins_sub ht).elim (h.sm t) fun e => e ▸ hsm
  ·rw [e]; exact hm _ hp (by rw [rs_lf]; exact mem_ins _ _)
 | br s ks =>
  rw [hg] at hok hsm hm hk
  have hks : ks.length = wid s := by cases hok; assumption
  have hwb := wid_bd s
  simp only [kidsOf] at hk
  by_cases e0 : s = site
  ·subst e0
   have e : rU l s o (i + 1) = rU l s o i := by rw [rU, hg, rT, if_pos rfl]
   refine ⟨⟨?_, ?_, ?_, ?_, ?_⟩, by rw [e]; exact List.prefix_refl _⟩
   ·rw [e]; exact h.clo
   ·rw [e]; exact h.nod
   ·rw [e]; omega
   ·rw [e]; exact h.sm
   ·rw [e]; exact hm _ (List.prefix_refl _) (by rw [rs_at (by omega)]; exact hk _ (gt_mem (by omega)))
  ·have e : rU l site o (i + 1) = insM (rU l site o i) s (ks.map (rs site o)) := by rw [rU, hg, rT, if_neg e0]
   have hp := insM_pre (rU l site o i) s (ks.map (rs site o))
   have hk2 : ∀ k ∈ ks.map (rs site o), k ∈ rU l site o i := fun k hkk => by
    obtain ⟨x, hx, rfl⟩ := List.mem_map.1 hkk
    exact hk x hx
   refine ⟨⟨?_, ?_, ?_, ?_, ?_⟩, by rw [e]; exact hp⟩
   ·rw [e]; exact insM_clo h.clo hk2
   ·rw [e]; exact insM_nod h.nod
   ·rw [e]; have := insM_len (rU l site o i) s (ks.map (rs site o)); omega
   ·rw [e]; exact insM_all h.sm ⟨by simp only [kidsOf, List.length_map]; omega, hsm.s, hsm.v⟩
   ·rw [e]; exact hm _ hp (by rw [rs_kids e0]; exact mkbr_in hk2 (by rw [List.length_map]; omega))
theorem RI.zero (l : List Tr) (site o : Nat) : RI l site o 0 := ⟨Clo.nil, List.nodup_nil, Nat.zero_le _, fun _ h => (by cases h), fun x h => by simp at h⟩
theorem rA_len (l U : List Tr) (site o : Nat) {i : Nat} (h : i ≤ l.length) : (rA l U site o i).length = l.length := by simp [rA]; omega
theorem rA_zero (l U : List Tr) (site o : Nat) : rA l U site o 0 = List.replicate l.length 0 := by simp [rA]
theorem rA_get {l U : List Tr} {site o i : Nat} (hn : l.Nodup) {k : Tr} (hk : k ∈ l.take i) (hi : i ≤ l.length) : gi (rA l U site o i) (ix l k) = (ix U (rs site o k) : Nat) := by
 have h2 := ix_lt hk
 rw [← ix_pre (List.take_prefix i l) hk] at h2
 rw [List.length_take] at h2
 have hlt : ix l k < l.length := by omega
 have hgk : l[ix l k] = k := get_ix (List.mem_of_mem_take hk)
 unfold rA gi
 rw [List.getD_eq_getElem?_getD, List.getElem?_append_left (by rw [List.length_map, List.length_take]; omega), List.getElem?_map, List.getElem?_take, if_pos (by omega), List.getElem?_eq_getElem hlt, hgk]
 rfl
theorem rA_set {l U V : List Tr} {site o i : Nat} (hp : U <+: V) (hm : ∀ x ∈ l.take i, rs site o x ∈ U) (hi : i < l.length) : (rA l U site o i).set i (ix V (rs site o (gt l i)) : Nat) = rA l V site o (i + 1) := by
 have hl : ((l.take i).map fun x => (ix U (rs site o x) : Int)).length = i := by rw [List.length_map, List.length_take]; omega
 unfold rA
 rw [List.set_append_right _ _ (by omega), hl, Nat.sub_self, show l.length - i = (l.length - (i + 1)) + 1 by omega, List.replicate_succ, List.set_cons_zero, take_gt hi, List.map_append, List.append_assoc]
 congr 1
 exact List.map_congr_left fun x hx => by rw [ix_pre hp (hm x hx)]
theorem c_Restrict (t : Tr) (ds : List (Int × List (List Tm))) (h : Rin t ds) (site o : Nat) (hsi : site < 64) (ho : o < wid site) :
  CT 26 [dgt (enum t []), .data (iv .i64 (site : Nat)), .data (iv .i64 (o : Nat))] { val := .tup [dg (rs site o t), .sc (.int .i64 0)], args := [dgt (enum t []), .data (iv .i64 (site : Nat)), .data (iv .i64 (o : Nat))] } := by
 obtain ⟨hx, hn, hc, h0⟩ := h.all
 have hv := c_Validate wid t h.ok (by have := h.sz; omega) (fun x hxx => (hx x hxx).2.2)
 have hnod := enum_nodup (t := t) (l := []) List.nodup_nil
 have hroot := enum_root t
 have hrs := rs_sz (site := site) (o := o) h.ok ho
 have hrl := enum_len (rs site o t) []
 have hsz := h.sz
 have hRI : ∀ i, i ≤ (enum t []).length → RI (enum t []) site o i := by
  intro i
  induction i with
  | zero => intro _; exact RI.zero _ _ _
  | succ i ih => intro hi; exact ((ih (by omega)).step hc (by omega) (hx _ (gt_mem (by omega))).1 (hx _ (gt_mem (by omega))).2.2 ho).1
 clear h
 unfold dg
 generalize enum t [] = E at *
 have hnl := nds_length E
 refine Ctr.intro ⟨Tryz.f26, _, Tryz.call26, Tryz.func26, fold_body (by rfl) (by kernel_rfl), (by simp [Tryz.ntmps26]), (by simp), (by kernel_rfl), ?_⟩
 refine wks ?_
 refine wk0 ?_
 refine callI (hv) ?_
 refine wk0 ?_
 refine callI (c_TNew) ?_
 refine wk0 ?_
 refine run_loop [1, 2, 6, 9, 10, 30, 31, 32] [6, 24, 28, 10000006, 10000024, 20000024] (α := {i : Nat // i ≤ E.length})
  (fun i => ⟨[(1, iv .i64 site), (2, iv .i64 o), (6, .hp ⟨6, 1⟩ 0 0), (9, .hp ⟨24, 1⟩ 0 0), (10, .hs ⟨28, 1⟩ 0 E.length), (30, .sl 3 (ns (nds E))), (31, iv .i64 E.length), (32, iv .i64 i.1)],
   [(6, ⟨1, true, true, .cells 1 [.agg [.hs ⟨10000006, 1⟩ 0 0]]⟩), (24, ⟨1, true, true, .cells 2 [.agg [.hs ⟨10000024, 1⟩ 0 (rU E site o i.1).length, .hm ⟨20000024, 1⟩]]⟩), (28, ⟨1, true, false, .cells 1 (ints (rA E (rU E site o i.1) site o i.1))⟩),
    (10000006, ⟨1, true, false, .cells 3 []⟩), (10000024, ⟨1, true, false, .cells 3 (ns (nds (rU E site o i.1)))⟩), (20000024, ⟨1, true, false, .map .str (entL (nds (rU E site o i.1)))⟩)]⟩)
  (fun i => E.length - i.1) ⟨0, Nat.zero_le _⟩ (by simp only [rA_zero]; exact (by first | rfl | simp [tc, qc])) ?_
 rintro ⟨i, hi⟩
 have hR := hRI i hi
 refine wk0 ?_
 refine condK.dec (fun hlt => ?_) (fun hlt => ?_)
 ·have hil : i < E.length := by omega
  have hg := gn_nds hil
  obtain ⟨x1, x2, x3⟩ := hx _ (gt_mem hil)
  obtain ⟨hS, hpre⟩ := hR.step hc hil x1 x3 ho
  have hset := rA_set (o := o) (site := site) hpre hR.mem hil
  have hget := fun k hk => rA_get (U := rU E site o i) (site := site) (o := o) hnod (k := k) hk hi
  have hkid : ∀ k ∈ kidsOf (gt E i), k ∈ E.take i := by rw [gt_eq hil]; exact hc.at hil
  have hkm : ∀ k ∈ kidsOf (gt E i), rs site o k ∈ rU E site o i := fun k hk => hR.mem k (hkid k hk)
  have hal := rA_len E (rU E site o i) site o hi
  have hUc := hR.clo
  have hUs := hR.sm
  have hUl := hR.len
  have hVl := hS.len
  have hVe : rU E site o (i + 1) = rT site o (rU E site o i) (gt E i) := rfl
  rw [← gt_eq hil] at hg
  clear hRI hR hS hx
  obtain ⟨V, hVV⟩ : ∃ V, V = rU E site o (i + 1) := ⟨_, rfl⟩
  rw [← hVV] at hpre hset hVl hVe
  generalize rU E site o i = U at *
  obtain ⟨A', hA'⟩ : ∃ A', A' = rA E V site o (i + 1) := ⟨_, rfl⟩
  rw [← hA'] at hset
  generalize rA E U site o i = A at *
  generalize gt E i = x at *
  cases x with
  | lf v =>
   have hnd : nd E (.lf v) = ⟨-1, v, []⟩ := rfl
   rw [hnd] at hg
   have hcl := c_TLeaf (nds U) v (sml_nds hUc hUs (by omega)) x3.v (by rw [nds_length]; omega)
   obtain ⟨a1, a2⟩ := addL_nd (U := U) (t := .lf v) hUc (by simp [kidsOf])
   have hnd2 : nd U (.lf v) = ⟨-1, v, []⟩ := rfl
   rw [hnd2] at a1 a2
   rw [rT] at hVe
   rw [rs_lf] at hset
   rw [a1, a2, ← hVe] at hcl
   refine wk1 @hg ?_
   refine callI (hcl) ?_
   refine wk2 @hal @hset ?_
   exact ⟨⟨i + 1, by omega⟩, by simp only [← hVV, ← hA']; exact (by first | rfl | simp [tc, qc]), by simp only; omega⟩
  | br s ks =>
   have hks : ks.length = wid s := by cases x1; assumption
   have hwb := wid_bd s
   have hsv : (nd E (.br s ks)).site = (s : Int) := rfl
   have hkn : (nd E (.br s ks)).kids.length = ks.length := nd_klen E (.br s ks)
   rw [sd] at x2
   simp only [kidsOf] at hkid hkm
   by_cases e0 : s = site
   ·subst e0
    rw [rT, if_pos rfl] at hVe
    rw [rs_at (by omega)] at hset
    have hkg : gt ks o ∈ ks := gt_mem (by omega)
    have hgo : gi (nd E (.br s ks)).kids o = (ix E (gt ks o) : Nat) := by
     rw [gt_eq (by omega)]
     exact gi_kid (t := .br s ks) (by simp only [kidsOf]; omega)
    have hgg := hget _ (hkid _ hkg)
    have hil2 := ix_lt (List.mem_of_mem_take (hkid _ hkg))
    subst hVe
    generalize (ix E (gt ks o)) = c at *
    refine wk8 @hg @hsv @hkn @kidsOf_br @hgo @hgg @hal @hset ?_
    exact ⟨⟨i + 1, by omega⟩, by simp only [← hVV, ← hA']; exact (by first | rfl | simp [tc, qc]), by simp only; omega⟩
   ·have hne : ¬ (s : Int) = (site : Nat) := by omega
    rw [rT, if_neg e0] at hVe
    rw [rs_kids e0] at hset
    have hk2 : ∀ k ∈ ks.map (rs site o), k ∈ U := fun k hkk => by
     obtain ⟨y, hy, rfl⟩ := List.mem_map.1 hkk
     exact hkm y hy
    have hcl := c_TBr U s (ks.map (rs site o)) hUc hUs (by omega) hk2 (by rw [List.length_map]; omega) (by rw [List.length_map]; omega) (by cases x1; assumption)
    rw [← hVe] at hcl
    obtain ⟨kk, hkk⟩ : ∃ kk : List Int, kk = (ks.map (rs site o)).map fun k => (ix U k : Int) := ⟨_, rfl⟩
    rw [← hkk] at hcl
    have hkkl : kk.length = ks.length := by rw [hkk]; simp
    have hget2 : ∀ k (h : k < ks.length), gi A (ix E ks[k]) = gi kk k := by
     intro k h
     rw [hget _ (hkid _ (List.getElem_mem h)), hkk]
     simp [gi, List.getD, h]
    have fk : ints (List.replicate ks.length 0) = ints (kk.take 0 ++ List.replicate (ks.length - 0) 0) := by simp
    refine wk6 @hg @hsv @hne @decide_false @kidsOf_br @hkn ?_
    rw [fk]
    refine run_loop [1, 2, 6, 9, 10, 11, 12, 13, 30, 31, 32, 42, 43, 44] [6, 12, 24, 28, 40, 10000006, 10000024, 20000024] (α := {k : Nat // k ≤ ks.length})
     (fun k => ⟨[(1, iv .i64 site), (2, iv .i64 o), (6, .hp ⟨6, 1⟩ 0 0), (9, .hp ⟨24, 1⟩ 0 0), (10, .hs ⟨28, 1⟩ 0 E.length), (11, iv .i64 i), (12, .hp ⟨12, 1⟩ 0 0), (13, .hs ⟨40, 1⟩ 0 ks.length), (30, .sl 3 (ns (nds E))), (31, iv .i64 E.length), (32, iv .i64 i), (42, .sl 1 (ints (nd E (.br s ks)).kids)), (43, iv .i64 ks.length), (44, iv .i64 k.1)],
      [(6, ⟨1, true, true, .cells 1 [.agg [.hs ⟨10000006, 1⟩ 0 0]]⟩), (12, ⟨1, true, true, .cells 3 [.agg [iv .i64 (s : Nat), iv .i64 (nd E (.br s ks)).value, .sl 1 (ints (nd E (.br s ks)).kids)]]⟩), (24, ⟨1, true, true, .cells 2 [.agg [.hs ⟨10000024, 1⟩ 0 U.length, .hm ⟨20000024, 1⟩]]⟩), (28, ⟨1, true, false, .cells 1 (ints A)⟩),
       (40, ⟨1, true, false, .cells 1 (ints (kk.take k.1 ++ List.replicate (ks.length - k.1) 0))⟩), (10000006, ⟨1, true, false, .cells 3 []⟩), (10000024, ⟨1, true, false, .cells 3 (ns (nds U))⟩), (20000024, ⟨1, true, false, .map .str (entL (nds U))⟩)]⟩)
     (fun k => ks.length - k.1) ⟨0, Nat.zero_le _⟩ (by first | rfl | simp [tc, qc]) ?_
    rintro ⟨k, hk⟩
    have hzl : (kk.take k ++ List.replicate (ks.length - k) 0).length = ks.length := by simp; omega
    refine wk0 ?_
    refine condK.dec (fun h2 => ?_) (fun h2 => ?_)
    ·have hk2' : k < ks.length := by omega
     have e1 : gi (nd E (.br s ks)).kids k = (ix E ks[k] : Nat) := gi_kid (t := .br s ks) hk2'
     have hjl := ix_lt (List.mem_of_mem_take (hkid _ (List.getElem_mem hk2')))
     have e2 := hget2 k hk2'
     have e3 : (kk.take k ++ List.replicate (ks.length - k) 0).set k (gi kk k) = kk.take (k + 1) ++ List.replicate (ks.length - (k + 1)) 0 := by
      have hkl2 : (kk.take k).length = k := by rw [List.length_take]; omega
      rw [List.set_append_right _ _ (by rw [hkl2]; exact Nat.le_refl _), hkl2, Nat.sub_self, show ks.length - k = (ks.length - (k + 1)) + 1 by omega, List.replicate_succ, List.set_cons_zero, gi_take (l := kk) (k := k) (j := k) (by omega) rfl, List.append_assoc]
      rfl
     generalize ix E ks[k] = j at *
     refine wk5 @e1 @e2 @e3 @hal @kidsOf_br ?_
     exact ⟨⟨k + 1, by omega⟩, (by first | rfl | simp [tc, qc]), by simp only; omega⟩
    ·have hkz : k = ks.length := by omega
     have e4 : kk.take k ++ List.replicate (ks.length - k) 0 = kk := by rw [hkz, Nat.sub_self, ← hkkl, List.take_length]; simp
     have e5 : kk.take ks.length = kk := by rw [← hkkl, List.take_length]
     rw [e4]
     refine wk1 @e5 ?_
     refine callI (hcl) ?_
     refine wk2 @hal @hset ?_
     exact ⟨⟨i + 1, by omega⟩, by simp only [← hVV, ← hA']; exact (by first | rfl | simp [tc, qc]), by simp only; omega⟩
 ·have hil : i = E.length := by omega
  subst hil
  have hlast : gi (rA E (rU E site o E.length) site o E.length) (E.length - 1) = (ix (rU E site o E.length) (rs site o t) : Nat) := by
   have hm : t ∈ E.take E.length := by rw [List.take_length, ← hroot]; exact gt_mem (by omega)
   have := rA_get (U := rU E site o E.length) (site := site) (o := o) hnod hm (Nat.le_refl _)
   have e : ix E t = E.length - 1 := by
    rw [← hroot, gt_eq (by omega), ix_get hnod (by omega)]
   rwa [e] at this
  have hmem : rs site o t ∈ rU E site o E.length := hR.mem t (by rw [List.take_length, ← hroot]; exact gt_mem (by omega))
  have hal := rA_len E (rU E site o E.length) site o (Nat.le_refl _)
  have hUl := hR.len
  have hT : Tab (rU E site o E.length) := ⟨hR.clo, hR.nod, by omega, fun x hx => by have := (hR.sm x hx).k; omega⟩
  have hxp := c_Export _ _ hT hmem (by simp only [List.length_nil] at hrl; omega) (by omega)
  clear hRI hR hx
  generalize rU E site o E.length = U at *
  generalize rA E U site o E.length = A at *
  have fL : (E.length : Int) - 1 = ((E.length - 1 : Nat) : Int) := by omega
  refine wk3 @fL @hlast @hal ?_
  refine callI (hxp) ?_
  refine wk0 ?_
  exact ⟨Or.inl (by simp [cleanL, cleanCell]), by simp [VC, cellKeys, disjB]⟩
end Go.Proofs.YteipiejlljnclaaGreatDoor
