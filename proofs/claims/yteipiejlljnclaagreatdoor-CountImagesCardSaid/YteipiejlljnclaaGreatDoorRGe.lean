/- The oracle's diagrams (exactpplref19): the order of a table's nodes below a root, a branch of diagrams. Conditions stand in each. -/
import Derived.Test.YteipiejlljnclaaGreatDoorRGd
set_option linter.unusedVariables false
set_option linter.unusedSimpArgs false
set_option maxRecDepth 10000
set_option maxHeartbeats 8000000
namespace Go.Proofs.YteipiejlljnclaaGreatDoor
open Go Go.AL
attribute [local irreducible] run opK opD callK
attribute [local simp] keep keepEnv keepRows keepAV keepPl keepBody keepElems keepElem keepCells lget inL normG
def fill (n i : Nat) : List Int := List.replicate i (-1) ++ List.replicate (n - i) 0
theorem fill_len {n i : Nat} (h : i ≤ n) : (fill n i).length = n := by simp [fill]; omega
theorem fill_set {n i : Nat} (h : i < n) : (fill n i).set i (-1) = fill n (i + 1) := by
 unfold fill
 rw [List.set_append_right _ _ (by simp), List.length_replicate, Nat.sub_self, show n - i = (n - (i + 1)) + 1 by omega, List.replicate_succ, List.set_cons_zero, List.replicate_succ', List.append_assoc]
 rfl
noncomputable def dg (t : Tr) : AV := .agg [.sl 3 (ns (nds (enum t [])))]
theorem c_Order (ts : List Tr) (t : Tr) (hts : Tab ts) (ht : t ∈ ts) (hsz : t.sz < 274877906944) : CT 111 [lsd ts, .data (iv .i64 (ix ts t : Nat))] { val := dg t, args := [lsd ts, .data (iv .i64 (ix ts t : Nat))] } := by
 have htl := hts.len
 have hnl := nds_length ts
 have hw := c_walk ts hts (t.sz + 1) t (by omega) ht [] Clo.nil List.nodup_nil (by simp) (by simpa using hsz)
 have fz : ints (List.replicate ts.length 0) = ints (fill ts.length 0) := by simp [fill]
 unfold dg
 refine Ctr.intro ⟨Tryz.f111, _, Tryz.call111, Tryz.func111, fold_body (by rfl) (by kernel_rfl), (by simp [Tryz.ntmps111]), (by simp), (by kernel_rfl), ?_⟩
 refine wks ?_
 refine wk0 ?_
 rw [fz]
 refine run_loop [0, 1, 4, 5, 6] [4, 9, 30000004, 10000004] (α := {i : Nat // i ≤ ts.length}) (fun i => ⟨[(0, .sl 3 (ns (nds ts))), (1, iv .i64 (ix ts t : Nat)), (4, .hp ⟨4, 1⟩ 0 0), (5, .hs ⟨9, 1⟩ 0 ts.length), (6, iv .i64 i.1)],
   [(4, ⟨1, true, true, .cells 1 [.agg [.hs ⟨10000004, 1⟩ 0 0]]⟩), (9, ⟨1, true, false, .cells 1 (ints (fill ts.length i.1))⟩), (10000004, ⟨1, true, false, .cells 3 []⟩)]⟩)
  (fun i => ts.length - i.1) ⟨0, Nat.zero_le _⟩ (by first | rfl | simp) ?_
 rintro ⟨i, hi⟩
 have hfl := fill_len hi
 refine wk0 ?_
 refine condK.dec (fun h => ?_) (fun h => ?_)
 ·have hset := fill_set (n := ts.length) (i := i) (by omega)
  refine wk1 @hset ?_
  exact ⟨⟨i + 1, by omega⟩, (by first | rfl | simp), by simp only; omega⟩
 ·have e : fill ts.length i = atv ts [] := by
   have : i = ts.length := by omega
   subst this
   rw [atv_nil]; simp [fill]
  have e3 := atv_len ts []
  have e2 : (atv ts []).take ts.length = atv ts [] := by rw [← atv_len ts [], List.take_length]
  rw [e]
  refine wk1 @e2 ?_
  refine callI (hw) ?_
  refine wk0 ?_
  refine ⟨Or.inr ?_, ?_⟩ <;> simp [cellsOut, cellOut, hsOut, cellKeys, lget, disjB, cleanL, cleanCell, VC, inL, ns_len, ns_take, take_nds]
noncomputable def dgs (ks : List Tr) : List AV := ks.map dg
theorem dgs_len (ks : List Tr) : (dgs ks).length = ks.length := by simp [dgs]
theorem dgs_at {ks : List Tr} {i : Nat} (h : i < ks.length) : at_ (dgs ks) i = .agg [.sl 3 (ns (nds (enum ks[i] [])))] := by simp [at_, dgs, dg, List.getD, h]
attribute [go_sem] dgs_len
noncomputable def tabs (ks : List Tr) : List Tr := ks.foldl (fun u t => insL u (enum t [])) []
theorem tabs_snoc (ks : List Tr) (t : Tr) : tabs (ks ++ [t]) = insL (tabs ks) (enum t []) := by simp [tabs]
theorem tabs_pre (ks : List Tr) (i : Nat) : tabs (ks.take i) <+: tabs ks := by
 have key : ∀ (b : List Tr) (u : List Tr), u <+: b.foldl (fun u t => insL u (enum t [])) u := by
  intro b
  induction b with
  | nil => intro u; exact List.prefix_refl u
  | cons x b ih => intro u; exact (insL_pre u (enum x [])).trans (ih _)
 unfold tabs
 conv => rhs; rw [← List.take_append_drop i ks, List.foldl_append]
 exact key _ _
theorem enum_tab {t : Tr} {w : Nat → Nat} (h : Ok w t) (hs : t.sz < 68719476736) : Tab (enum t []) ∧ ∀ x ∈ enum t [], Rd x := by
 have hok := h.enum (l := []) (by simp)
 refine ⟨⟨enum_clo Clo.nil, enum_nodup List.nodup_nil, by have := enum_len t []; simp at this; omega, fun x hx => ?_⟩, fun x hx => (hok x hx).rd⟩
 have := hok x hx
 cases this with
 | lf => simp [kidsOf]
 | br _ hw _ h2 _ _ _ => simp only [kidsOf]; omega
theorem fold_tab {w : Nat → Nat} : ∀ {ks u : List Tr}, Tab u → (∀ x ∈ u, Ok w x) → (∀ k ∈ ks, Ok w k) → u.length + szs ks < 68719476736 →
  Tab (ks.foldl (fun u t => insL u (enum t [])) u) ∧ (ks.foldl (fun u t => insL u (enum t [])) u).length ≤ u.length + szs ks ∧ (∀ x ∈ ks.foldl (fun u t => insL u (enum t [])) u, Ok w x) := by
 intro ks
 induction ks with
 | nil => intro u h1 h2 _ _; exact ⟨h1, by simp [szs], h2⟩
 | cons t ks ih =>
  intro u h1 h2 hk hs
  simp only [szs] at hs
  have ht := hk t (by simp)
  obtain ⟨g1, g2⟩ := enum_tab ht (by omega)
  have hok := ht.enum (l := []) (by simp)
  have hlen := insL_len u (enum t [])
  have hel := enum_len t []
  simp only [List.length_nil, Nat.zero_add] at hel
  have := ih (u := insL u (enum t [])) ⟨insL_clo h1.clo g1.clo, insL_nodup h1.nod, by omega, fun x hx => (insL_sub hx).elim (h1.kid x) (g1.kid x)⟩ (fun x hx => (insL_sub hx).elim (h2 x) (hok x)) (fun k hkk => hk k (by simp [hkk])) (by omega)
  refine ⟨this.1, ?_, this.2.2⟩
  have := this.2.1
  simp only [List.foldl_cons, szs] at *
  omega
theorem tabs_tab {w : Nat → Nat} {ks : List Tr} (hk : ∀ k ∈ ks, Ok w k) (hs : szs ks < 68719476736) : Tab (tabs ks) ∧ (tabs ks).length ≤ szs ks ∧ (∀ x ∈ tabs ks, Ok w x) := by
 have := fold_tab (ks := ks) (u := []) ⟨Clo.nil, List.nodup_nil, by simp, by simp⟩ (by simp) hk (by simpa using hs)
 simpa [tabs] using this
theorem last_ix {t : Tr} {f : Tr → Int} : gi ((enum t []).map f) ((enum t []).length - 1) = f t := by
 rw [enum_of_not (by simp)]
 simp [gi, List.getD]
theorem mem_tabs {ks : List Tr} {t : Tr} (h : t ∈ ks) : t ∈ tabs ks := by
 obtain ⟨i, hi, rfl⟩ := List.mem_iff_getElem.mp h
 refine mem_of_pre (tabs_pre ks (i + 1)) ?_
 rw [List.take_succ_eq_append_getElem hi, tabs_snoc]
 exact mem_insL (mem_enum _ _)
theorem szs_take_le (ks : List Tr) : ∀ i, szs (ks.take i) ≤ szs ks := by
 induction ks with
 | nil => intro i; simp
 | cons k ks ih => intro i; cases i with
  | zero => simp [szs]
  | succ i => have := ih i; simp only [List.take_succ_cons, szs]; omega
theorem mkbr_mem {U : List Tr} {s : Nat} {ks : List Tr} (hk : ∀ k ∈ ks, k ∈ U) (h0 : ks ≠ []) : mkbr s ks ∈ insM U s ks := by
 unfold mkbr insM
 split
 ·cases ks with
  | nil => exact absurd rfl h0
  | cons a ks => simpa using hk a (by simp)
 ·exact mem_ins _ _
theorem mkbr_sz (s : Nat) (ks : List Tr) (h0 : ks ≠ []) : (mkbr s ks).sz ≤ 1 + szs ks := by
 unfold mkbr
 split
 ·cases ks with
  | nil => exact absurd rfl h0
  | cons a ks => simp only [List.headD_cons, szs]; omega
 ·simp [Tr.sz]
theorem insM_tab {U : List Tr} {s : Nat} {ks : List Tr} (hU : Tab U) (hk : ∀ k ∈ ks, k ∈ U) (hkl : ks.length < 274877906944) (hl : U.length + 1 < 274877906944) : Tab (insM U s ks) := by
 unfold insM
 split
 ·exact hU
 ·exact ins_tab hU hk hkl (by have := ins_len U (.br s ks); omega)
theorem place_br {U : List Tr} {s : Nat} {ks : List Tr} {kk : List Int} (hU : Tab U) (hk : ∀ k ∈ ks, k ∈ U) (h0 : ks ≠ []) (hkl : ks.length < 274877906944) (hkk : kk = ks.map fun k => (ix U k : Int)) :
  CT 110 [lsm U, .data (.agg [.sc (.int .i64 (s : Nat)), .sc (.int .i64 0), .sl 1 (ints kk)])]
   {val := .tup [.hs ⟨0, 0⟩ 0 (insM U s ks).length, iv .i64 (ix (insM U s ks) (mkbr s ks) : Int)], new := [lsm (insM U s ks)], args := [.lost, .data (.agg [.sc (.int .i64 (s : Nat)), .sc (.int .i64 0), .sl 1 (ints kk)])] } := by
 have h := c_Place (nds U) (nd U (.br s ks)) (nds_kid hU.kid) (by rw [nd_klen]; simp only [kidsOf]; omega) (by rw [nds_length]; have := hU.len; omega) (fun _ e => h0 (by simpa [nd, kidsOf] using e))
 rw [plc_br hU.clo hk h0] at h
 simp only [nds_length] at h
 subst hkk
 exact h
theorem c_Join (w : Nat → Nat) (s : Nat) (ks : List Tr) (h0 : ks ≠ []) (hk : ∀ k ∈ ks, Ok w k) (hs : szs ks < 68719476736) (hss : s < 1000) : CT 58 [.data (iv .i64 (s : Nat)), .data (.sl 1 (dgs ks))]
  {val := dg (mkbr s ks), args := [.data (iv .i64 (s : Nat)), .data (.sl 1 (dgs ks))] } := by
 obtain ⟨kk, hkk⟩ : ∃ kk : List Int, kk = ks.map fun k => (ix (tabs ks) k : Int) := ⟨_, rfl⟩
 have hkkl : kk.length = ks.length := by rw [hkk, List.length_map]
 have hksl : ks.length ≤ szs ks := by
  clear h0 hk hs hkk hkkl
  induction ks with
  | nil => simp
  | cons k ks ih => have := sz_pos k; simp only [szs, List.length_cons]; omega
 unfold dg
 refine Ctr.intro ⟨Tryz.f58, _, Tryz.call58, Tryz.func58, fold_body (by rfl) (by kernel_rfl), (by simp [Tryz.ntmps58]), (by simp), (by kernel_rfl), ?_⟩
 refine wks ?_
 refine wk0 ?_
 refine run_loop [0, 1, 4, 5, 6, 7] [4, 5, 6, 25, 10000004, 30000006] (α := {i : Nat // i ≤ ks.length})
  (fun i => match i.1 with
   | 0 => ⟨[(0, iv .i64 (s : Nat)), (1, .sl 1 (dgs ks)), (4, .hp ⟨4, 1⟩ 0 0), (5, .hs ⟨5, 1⟩ 0 0), (6, .hp ⟨6, 1⟩ 0 0), (7, iv .i64 0)],
     [(4, ⟨1, true, true, .cells 1 [.agg [.hs ⟨10000004, 1⟩ 0 0]]⟩), (5, ⟨1, true, false, .cells 3 []⟩), (6, ⟨1, true, true, .cells 3 [.agg [iv .i64 (s : Nat), iv .i64 0, .hs ⟨30000006, 1⟩ 0 0]]⟩), (10000004, ⟨1, true, false, .cells 3 []⟩), (30000006, ⟨1, true, false, .cells 1 []⟩)]⟩
   | i + 1 => ⟨[(0, iv .i64 (s : Nat)), (1, .sl 1 (dgs ks)), (4, .hp ⟨4, 1⟩ 0 0), (5, .hs ⟨25, 1⟩ 0 (tabs (ks.take (i + 1))).length), (6, .hp ⟨6, 1⟩ 0 0), (7, iv .i64 ((i + 1 : Nat) : Int))],
     [(4, ⟨1, true, true, .cells 1 [.agg [.hs ⟨10000004, 1⟩ 0 0]]⟩), (5, ⟨1, false, false, .cells 0 []⟩), (6, ⟨1, true, true, .cells 3 [.agg [iv .i64 (s : Nat), iv .i64 0, .hs ⟨30000006, 1⟩ 0 (i + 1)]]⟩),
      (25, ⟨1, true, false, .cells 3 (ns (nds (tabs (ks.take (i + 1)))))⟩), (10000004, ⟨1, true, false, .cells 3 []⟩), (30000006, ⟨1, true, false, .cells 1 (ints (kk.take (i + 1)))⟩)]⟩)
  (fun i => ks.length - i.1) ⟨0, Nat.zero_le _⟩ (by first | rfl | simp) ?_
 rintro ⟨i, hi⟩
 cases i with
 | zero =>
  have hpos : 0 < ks.length := by
   cases ks with
   | nil => exact absurd rfl h0
   | cons a ks => simp
  simp only
  refine wk0 ?_
  have hi2 : 0 < ks.length := by omega
  obtain ⟨t, htt⟩ : ∃ t, t = ks[0] := ⟨_, rfl⟩
  have hd : at_ (dgs ks) 0 = .agg [.sl 3 (ns (nds (enum t [])))] := by rw [htt]; exact dgs_at hi2
  have htk : t ∈ ks := by rw [htt]; exact List.getElem_mem _
  have hszt : t.sz ≤ szs ks := sz_le_szs htk
  obtain ⟨g1, g2⟩ := enum_tab (hk t htk) (by omega)
  obtain ⟨u1, u2, u3⟩ := tabs_tab (ks := ks.take 0) (fun k hkk => hk k (List.mem_of_mem_take hkk)) (by have := szs_take_le ks 0; omega)
  have hsx := szs_take ks hi2
  rw [← htt] at hsx
  have hel := enum_len t []
  simp only [List.length_nil, Nat.zero_add] at hel
  have hE1 : 1 ≤ (enum t []).length := by rw [enum_of_not (by simp)]; simp
  have hca := c_Append (tabs (ks.take 0)) (enum t []) u1 g1 g2 (by omega)
  have hU : insL (tabs (ks.take 0)) (enum t []) = tabs (ks.take (0 + 1)) := by rw [List.take_succ_eq_append_getElem hi2, tabs_snoc, ← htt]
  rw [hU] at hca
  obtain ⟨E, hE⟩ : ∃ E, E = (enum t []).map fun x => (ix (tabs (ks.take (0 + 1))) x : Int) := ⟨_, rfl⟩
  have hEl : E.length = (enum t []).length := by rw [hE, List.length_map]
  rw [← hE] at hca
  have htin : t ∈ tabs (ks.take (0 + 1)) := by rw [← hU]; exact mem_insL (mem_enum _ _)
  have hEx : gi E ((enum t []).length - 1) = gi kk 0 := by
   rw [hE, last_ix, hkk, ← ix_pre (tabs_pre ks (0 + 1)) htin]
   simp [gi, List.getD, hi2, ← htt]
  have e3 : kk.take 0 ++ [gi kk 0] = kk.take (0 + 1) := (gi_take (by omega) rfl).symm
  have e4 : (kk.take 0).take 0 = kk.take 0 := by rw [List.take_take, Nat.min_self]
  have e5 : (kk.take 0).length = 0 := by rw [List.length_take]; omega
  have e12 : [AV.sc (.int .i64 (gi kk 0))] = ints (kk.take 1) := one_take (by omega)
  refine wk1 @hd ?_
  refine callI (hca) ?_
  refine wk2 @hEl @hEx ?_
  refine vcalm (by kernel_rfl) ?_
  refine wk1 @e12 ?_
  exact ⟨⟨1, by omega⟩, (by first | rfl | simp), by simp only <;> omega⟩
 | succ i =>
  simp only
  refine wk0 ?_
  refine condK.dec (fun h => ?_) (fun h => ?_)
  ·have hi2 : (i + 1) < ks.length := by omega
   obtain ⟨t, htt⟩ : ∃ t, t = ks[(i + 1)] := ⟨_, rfl⟩
   have hd : at_ (dgs ks) (i + 1) = .agg [.sl 3 (ns (nds (enum t [])))] := by rw [htt]; exact dgs_at hi2
   have htk : t ∈ ks := by rw [htt]; exact List.getElem_mem _
   have hszt : t.sz ≤ szs ks := sz_le_szs htk
   obtain ⟨g1, g2⟩ := enum_tab (hk t htk) (by omega)
   obtain ⟨u1, u2, u3⟩ := tabs_tab (ks := ks.take (i + 1)) (fun k hkk => hk k (List.mem_of_mem_take hkk)) (by have := szs_take_le ks (i + 1); omega)
   have hsx := szs_take ks hi2
   rw [← htt] at hsx
   have hel := enum_len t []
   simp only [List.length_nil, Nat.zero_add] at hel
   have hE1 : 1 ≤ (enum t []).length := by rw [enum_of_not (by simp)]; simp
   have hca := c_Append (tabs (ks.take (i + 1))) (enum t []) u1 g1 g2 (by omega)
   have hU : insL (tabs (ks.take (i + 1))) (enum t []) = tabs (ks.take ((i + 1) + 1)) := by rw [List.take_succ_eq_append_getElem hi2, tabs_snoc, ← htt]
   rw [hU] at hca
   obtain ⟨E, hE⟩ : ∃ E, E = (enum t []).map fun x => (ix (tabs (ks.take ((i + 1) + 1))) x : Int) := ⟨_, rfl⟩
   have hEl : E.length = (enum t []).length := by rw [hE, List.length_map]
   rw [← hE] at hca
   have htin : t ∈ tabs (ks.take ((i + 1) + 1)) := by rw [← hU]; exact mem_insL (mem_enum _ _)
   have hEx : gi E ((enum t []).length - 1) = gi kk (i + 1) := by
    rw [hE, last_ix, hkk, ← ix_pre (tabs_pre ks ((i + 1) + 1)) htin]
    simp [gi, List.getD, hi2, ← htt]
   have e3 : kk.take (i + 1) ++ [gi kk (i + 1)] = kk.take ((i + 1) + 1) := (gi_take (by omega) rfl).symm
   have e4 : (kk.take (i + 1)).take (i + 1) = kk.take (i + 1) := by rw [List.take_take, Nat.min_self]
   have e5 : (kk.take (i + 1)).length = (i + 1) := by rw [List.length_take]; omega
   refine wk1 @hd ?_
   refine callI (hca) ?_
   refine wk5 @hEl @hEx @e3 @e4 @e5 ?_
   refine vcalm (by kernel_rfl) ?_
   refine wk1 @e3 ?_
   exact ⟨⟨i + 2, by omega⟩, (by first | rfl | simp), by simp only <;> omega⟩
  ·have hik : i + 1 = ks.length := by omega
   have e1 : ks.take (i + 1) = ks := by rw [hik, List.take_length]
   have e2 : kk.take (i + 1) = kk := by rw [hik, ← hkkl, List.take_length]
   have e2k : kk.take kk.length = kk := List.take_length
   obtain ⟨u1, u2, u3⟩ := tabs_tab hk hs
   have hm : ∀ k ∈ ks, k ∈ tabs ks := fun k h => mem_tabs h
   have hpl := place_br (s := s) (kk := kk) u1 hm h0 (by omega) hkk
   have hMt := insM_tab (s := s) u1 hm (by omega) (by omega)
   have hor := c_Order (insM (tabs ks) s ks) (mkbr s ks) hMt (mkbr_mem hm h0) (by have := mkbr_sz s ks h0; omega)
   unfold dg at hor
   rw [e1, e2]
   simp only [hik, ← hkkl] at *
   refine wk1 @e2k ?_
   refine callI (hpl) ?_
   refine wk0 ?_
   refine callI (hor) ?_
   refine wk0 ?_
   exact ⟨Or.inl (by simp [cleanL, cleanCell]), by simp [VC, cellKeys, disjB]⟩
end Go.Proofs.YteipiejlljnclaaGreatDoor
