/- The program's tables of nodes (graph): a diagram that is imported. Conditions stand in each. -/
import Derived.Test.YteipiejlljnclaaGreatDoorRHa
set_option linter.unusedVariables false
set_option linter.unusedSimpArgs false
set_option maxRecDepth 10000
set_option maxHeartbeats 16000000
namespace Go.Proofs.YteipiejlljnclaaGreatDoor
open Go Go.AL
attribute [local irreducible] run opK opD callK
attribute [local simp] keep keepEnv keepRows keepAV keepPl keepBody keepElems keepElem keepCells lget inL normG
theorem addL_nd {U : List Tr} {t : Tr} (hc : Clo U) (hk : ∀ k ∈ kidsOf t, k ∈ U) : addL (nds U) (nd U t) = nds (insT U t) ∧ addI (nds U) (nd U t) = ix (insT U t) t := by
 unfold addL addI
 by_cases h : t ∈ U
 ·have hm := (mem_nds hc hk).mpr h
  rw [if_pos hm, if_pos hm, idx_nds hc h]
  simp [insT, h]
 ·have hm : nd U t ∉ nds U := fun h' => h ((mem_nds hc hk).mp h')
  rw [if_neg hm, if_neg hm]
  simp only [insT, if_neg h, nds_snoc hc hk, ix_snoc h, nds_length, and_self]
structure SmT (t : Tr) : Prop where
 k : (kidsOf t).length < 1000
 s : siteOf t < 100
 v : sml (valOf t)
theorem site_lo (t : Tr) : -1 ≤ siteOf t := by cases t <;> simp [siteOf] <;> omega
theorem SmT.nd {U : List Tr} {t : Tr} (h : SmT t) (hk : ∀ k ∈ kidsOf t, k ∈ U) (hU : U.length < 100) : Sml (nd U t) := by
 refine ⟨⟨by have := site_lo t; simp only [nd_site]; omega, h.s⟩, h.v, fun x hx => ?_⟩
 obtain ⟨k, hkk, rfl⟩ := List.mem_map.mp hx
 have := ix_lt (hk k hkk)
 exact ⟨by omega, by omega⟩
theorem sml_nds {U : List Tr} (hc : Clo U) (h : ∀ t ∈ U, SmT t) (hU : U.length < 100) : ∀ m ∈ nds U, Sml m := by
 intro m hm
 obtain ⟨t, ht, rfl⟩ := List.mem_map.mp hm
 exact (h t ht).nd (hc.kids ht) hU
theorem not_same {U ks : List Tr} (hk : ∀ k ∈ ks, k ∈ U) (h : ¬ same ks) : ¬ ∀ x ∈ (ks.map fun k => (ix U k : Int)), x = gi (ks.map fun k => (ix U k : Int)) 0 := fun h' => h (same_ix hk h')
def gg : Nat → Nat
 | 0 => 0
 | _ + 1 => 1
theorem kidsOf_br (s : Nat) (ks : List Tr) : kidsOf (.br s ks) = ks := rfl
theorem valOf_br (s : Nat) (ks : List Tr) : valOf (.br s ks) = 0 := rfl
@[go_sem] noncomputable abbrev tpt (U : List Tr) : PA := .ptr 2 (.agg [.nst, .nst]) [(0, .cells 3 (ns (nds U))), (1, .map .str (entL (nds U)))]
theorem c_Import (ts ss : List Tr) (ht : Tab ts) (hs : Tab ss) (hr : ∀ t ∈ ss, Rd t) (hst : ∀ t ∈ ts, SmT t) (hsms : ∀ t ∈ ss, SmT t) (hl : ts.length + ss.length < 100) : CT 174 [tpt ts, lsd ss]
  {val := .hs ⟨0, 0⟩ 0 ss.length, new := [.slc (.cells 1 (ints (ss.map fun x => (ix (insL ts ss) x : Int))))], args := [tpt (insL ts ss), lsd ss] } := by
 have fz : ints (List.replicate ss.length 0) = ints (atA ts ss 0) := by rw [atA_zero]
 have hlen : ∀ i, i ≤ ss.length → (insL ts (ss.take i)).length < 100 := by
  intro i hi
  have hlen := insL_len ts (ss.take i)
  rw [List.length_take] at hlen
  omega
 have hTab : ∀ i, i ≤ ss.length → Tab (insL ts (ss.take i)) := fun i hi =>
  ⟨insL_clo ht.clo (hs.clo.take i), insL_nodup ht.nod, by have := hlen i hi; omega, fun x hx => (insL_sub hx).elim (ht.kid x) fun hx => hs.kid x (List.mem_of_mem_take hx)⟩
 have hsm : ∀ i, i ≤ ss.length → ∀ x ∈ insL ts (ss.take i), SmT x := fun i hi x hx => (insL_sub hx).elim (hst x) fun hx => hsms x (List.mem_of_mem_take hx)
 refine Ctr.intro ⟨Tryz.f174, _, Tryz.call174, Tryz.func174, fold_body (by rfl) (by kernel_rfl), (by simp [Tryz.ntmps174]), (by simp), (by kernel_rfl), ?_⟩
 refine wks ?_
 refine wk0 ?_
 rw [fz]
 refine run_loop [0, 5, 14, 15, 16] [0, 13, 10000000, 20000000] (α := {i : Nat // i ≤ ss.length})
  (fun i => ⟨[(0, .hp ⟨0, 0⟩ 0 0), (5, .hs ⟨13, 1⟩ 0 ss.length), (14, .sl 3 (ns (nds ss))), (15, iv .i64 ss.length), (16, iv .i64 i.1)],
   [(0, ⟨0, true, true, .cells 2 [.agg [.hs ⟨10000000, gg i.1⟩ 0 (insL ts (ss.take i.1)).length, .hm ⟨20000000, gg i.1⟩]]⟩), (13, ⟨1, true, false, .cells 1 (ints (atA ts ss i.1))⟩),
    (10000000, ⟨gg i.1, true, false, .cells 3 (ns (nds (insL ts (ss.take i.1))))⟩), (20000000, ⟨gg i.1, true, false, .map .str (entL (nds (insL ts (ss.take i.1))))⟩)]⟩)
  (fun i => ss.length - i.1) ⟨0, Nat.zero_le _⟩ (by first | rfl | simp) ?_
 rintro ⟨i, hi⟩
 cases i with
 | zero =>
  simp only [gg]
  obtain ⟨U, hUe⟩ : ∃ U, U = insL ts (ss.take 0) := ⟨_, rfl⟩
  rw [← hUe]
  refine wk0 ?_
  refine condK.dec (fun h => ?_) (fun h => ?_)
  ·have hi2 : ss.length > 0 := by omega
   obtain ⟨t, htt⟩ : ∃ t, t = ss[0] := ⟨_, rfl⟩
   have hg : gn (nds ss) (0) = nd ss t := by rw [htt]; exact gn_nds hi2
   have hnl := nds_length ss
   have htm : t ∈ ss := by rw [htt]; exact List.getElem_mem _
   have hkid : ∀ k ∈ kidsOf t, k ∈ ss.take (0) := by rw [htt]; exact hs.clo.at hi2
   have hU := hTab (0) (by omega)
   rw [← hUe] at hU
   have hkU : ∀ k ∈ kidsOf t, k ∈ U := fun k hk => by rw [hUe]; exact mem_insL (hkid k hk)
   have hV : insT U t = insL ts (ss.take (0 + 1)) := by rw [List.take_succ_eq_append_getElem hi2, insL_snoc, ← htt, hUe]
   have hUl : U.length < 100 := by have := hlen (0) (by omega); rw [← hUe] at this; exact this
   have hUs : ∀ m ∈ nds U, Sml m := sml_nds hU.clo (fun x hx => hsm (0) (by omega) x (by rw [← hUe]; exact hx)) hUl
   have hts : SmT t := hsms t htm
   obtain ⟨ha1, ha2⟩ := addL_nd (t := t) hU.clo hkU
   rw [hV] at ha1 ha2
   obtain ⟨V, hVe⟩ : ∃ V, V = insL ts (ss.take (0 + 1)) := ⟨_, rfl⟩
   rw [← hVe] at ha1 ha2
   have hset : (atA ts ss (0)).set (0) (ix V t : Int) = atA ts ss (0 + 1) := by rw [hVe, htt]; exact atA_set hi2
   have hal : (atA ts ss (0)).length = ss.length := atA_len ts ss (by omega)
   have hget : ∀ k (h : k < (kidsOf t).length), gi (atA ts ss (0)) (ix ss (kidsOf t)[k]) = (ix U (kidsOf t)[k] : Int) := by
    intro k h
    rw [atA_get (hkid _ (List.getElem_mem h)), hUe]
   have hrt := hr t htm
   have hkl := hs.kid t htm
   clear hTab hlen hsm hsms hr
   cases t with
   | lf v =>
    have hnd : nd ss (.lf v) = ⟨-1, v, []⟩ := rfl
    have hnd2 : nd U (.lf v) = ⟨-1, v, []⟩ := rfl
    rw [hnd] at hg
    rw [hnd2] at ha1 ha2
    have hc := c_TLeaf (nds U) v hUs hts.v (by rw [nds_length]; omega)
    rw [ha1, ha2] at hc
    refine wk1 @hg ?_
    refine callI (hc) ?_
    refine wk2 @hal @hset ?_
    exact ⟨⟨0 + 1, by omega⟩, by simp only [gg, ← hVe]; exact (by first | rfl | simp), by simp only <;> omega⟩
   | br s ks =>
    have hnd2 : nd U (.br s ks) = ⟨s, 0, ks.map fun k => (ix U k : Int)⟩ := rfl
    obtain ⟨kk, hkk⟩ : ∃ kk : List Int, kk = ks.map fun k => (ix U k : Int) := ⟨_, rfl⟩
    have hkkl : kk.length = ks.length := by rw [hkk, List.length_map]
    rw [hnd2, ← hkk] at ha1 ha2
    have hsb : sml (s : Int) := ⟨by omega, hts.s⟩
    have hkm : ∀ x ∈ kk, sml x := fun x hx => by
     rw [hkk] at hx
     obtain ⟨k, hk, rfl⟩ := List.mem_map.mp hx
     have := ix_lt (hkU k hk)
     exact ⟨by omega, by omega⟩
    have hnsm := not_same (U := U) (ks := ks) hkU (hrt s ks rfl)
    rw [← hkk] at hnsm
    have hk3 := hts.k
    simp only [kidsOf] at hkl hget hkid hk3
    have hc := c_TBranch (nds U) s kk hUs hsb hkm (by rw [nds_length]; omega) (by omega) hnsm
    rw [ha1, ha2] at hc
    have hkn : (nd ss (.br s ks)).kids.length = ks.length := nd_klen ss (.br s ks)
    have hsv : (nd ss (.br s ks)).site = (s : Int) := rfl
    have hkb : (kidsOf (.br s ks)).length = ks.length := rfl
    have fk : ints (List.replicate ks.length 0) = ints (kk.take 0 ++ List.replicate (ks.length - 0) 0) := by simp
    refine wk4 @hg @hsv @kidsOf_br @valOf_br ?_
    rw [fk]
    refine run_loop [0, 5, 6, 7, 8, 14, 15, 16, 36, 37, 38] [0, 7, 13, 34, 10000000, 20000000] (α := {k : Nat // k ≤ ks.length})
     (fun k => ⟨[(0, .hp ⟨0, 0⟩ 0 0), (5, .hs ⟨13, 1⟩ 0 ss.length), (6, iv .i64 (0 : Nat)), (7, .hp ⟨7, 1⟩ 0 0), (8, .hs ⟨34, 1⟩ 0 ks.length), (14, .sl 3 (ns (nds ss))), (15, iv .i64 ss.length), (16, iv .i64 (0 : Nat)), (36, .sl 1 (ints (nd ss (.br s ks)).kids)), (37, iv .i64 ks.length), (38, iv .i64 k.1)],
      [(0, ⟨0, true, true, .cells 2 [.agg [.hs ⟨10000000, 0⟩ 0 U.length, .hm ⟨20000000, 0⟩]]⟩), (7, ⟨1, true, true, .cells 3 [.agg [iv .i64 (s : Nat), iv .i64 0, .sl 1 (ints (nd ss (.br s ks)).kids)]]⟩), (13, ⟨1, true, false, .cells 1 (ints (atA ts ss (0)))⟩),
       (34, ⟨1, true, false, .cells 1 (ints (kk.take k.1 ++ List.replicate (ks.length - k.1) 0))⟩), (10000000, ⟨0, true, false, .cells 3 (ns (nds U))⟩), (20000000, ⟨0, true, false, .map .str (entL (nds U))⟩)]⟩)
     (fun k => ks.length - k.1) ⟨0, Nat.zero_le _⟩ (by first | rfl | simp) ?_
    rintro ⟨k, hk⟩
    have hzl : (kk.take k ++ List.replicate (ks.length - k) 0).length = ks.length := by simp; omega
    refine wk0 ?_
    refine condK.dec (fun h2 => ?_) (fun h2 => ?_)
    ·have hk2 : k < ks.length := by omega
     obtain ⟨j, hj⟩ : ∃ j, j = ix ss ks[k] := ⟨_, rfl⟩
     have e1 : gi (nd ss (.br s ks)).kids k = (j : Int) := by rw [hj]; exact gi_kid (t := .br s ks) hk2
     have hjl : j < ss.length := by rw [hj]; exact ix_lt (List.mem_of_mem_take (hkid _ (List.getElem_mem hk2)))
     have e2 : gi (atA ts ss (0)) j = gi kk k := by rw [hj, hget k hk2, hkk]; simp [gi, List.getD, hk2]
     have e3 : (kk.take k ++ List.replicate (ks.length - k) 0).set k (gi kk k) = kk.take (k + 1) ++ List.replicate (ks.length - (k + 1)) 0 := by
      have hkl2 : (kk.take k).length = k := by rw [List.length_take]; omega
      rw [List.set_append_right _ _ (by rw [hkl2]; exact Nat.le_refl _), hkl2, Nat.sub_self, show ks.length - k = (ks.length - (k + 1)) + 1 by omega, List.replicate_succ, List.set_cons_zero, gi_take (l := kk) (k := k) (j := k) (by omega) rfl, List.append_assoc]
      rfl
     refine wk4 @e1 @e2 @e3 @hal ?_
     exact ⟨⟨k + 1, by omega⟩, (by first | rfl | simp), by simp only; omega⟩
    ·have hkz : k = ks.length := by omega
     have e4 : kk.take k ++ List.replicate (ks.length - k) 0 = kk := by rw [hkz, Nat.sub_self, ← hkkl, List.take_length]; simp
     have e5 : kk.take ks.length = kk := by rw [← hkkl, List.take_length]
     rw [e4]
     refine wk1 @e5 ?_
     refine callI (hc) ?_
     refine wk2 @hal @hset ?_
     exact ⟨⟨0 + 1, by omega⟩, by simp only [gg, ← hVe]; exact (by first | rfl | simp), by simp only <;> omega⟩
  ·have hss : ss = [] := List.eq_nil_of_length_eq_zero (by omega)
   subst hss
   have hU0 : U = ts := by rw [hUe]; simp
   subst hU0
   have hid : insL U [] = U := rfl
   refine wk1 @hid ?_
   have h0 : atA U [] 0 = [] := by simp [atA]
   rw [h0]
   simp [memOut, lget, VC, packOut, packKeys, cellsOf, cellKeys, disjB, inL, AV.isAgg, cellOut, ns_len, ns_take, List.take_of_length_le, ints]
 | succ i =>
  simp only [gg]
  obtain ⟨U, hUe⟩ : ∃ U, U = insL ts (ss.take (i + 1)) := ⟨_, rfl⟩
  rw [← hUe]
  refine wk0 ?_
  refine condK.dec (fun h => ?_) (fun h => ?_)
  ·have hi2 : ss.length > i + 1 := by omega
   obtain ⟨t, htt⟩ : ∃ t, t = ss[i + 1] := ⟨_, rfl⟩
   have hg : gn (nds ss) (i + 1) = nd ss t := by rw [htt]; exact gn_nds hi2
   have hnl := nds_length ss
   have htm : t ∈ ss := by rw [htt]; exact List.getElem_mem _
   have hkid : ∀ k ∈ kidsOf t, k ∈ ss.take (i + 1) := by rw [htt]; exact hs.clo.at hi2
   have hU := hTab (i + 1) (by omega)
   rw [← hUe] at hU
   have hkU : ∀ k ∈ kidsOf t, k ∈ U := fun k hk => by rw [hUe]; exact mem_insL (hkid k hk)
   have hV : insT U t = insL ts (ss.take (i + 1 + 1)) := by rw [List.take_succ_eq_append_getElem hi2, insL_snoc, ← htt, hUe]
   have hUl : U.length < 100 := by have := hlen (i + 1) (by omega); rw [← hUe] at this; exact this
   have hUs : ∀ m ∈ nds U, Sml m := sml_nds hU.clo (fun x hx => hsm (i + 1) (by omega) x (by rw [← hUe]; exact hx)) hUl
   have hts : SmT t := hsms t htm
   obtain ⟨ha1, ha2⟩ := addL_nd (t := t) hU.clo hkU
   rw [hV] at ha1 ha2
   obtain ⟨V, hVe⟩ : ∃ V, V = insL ts (ss.take (i + 1 + 1)) := ⟨_, rfl⟩
   rw [← hVe] at ha1 ha2
   have hset : (atA ts ss (i + 1)).set (i + 1) (ix V t : Int) = atA ts ss (i + 1 + 1) := by rw [hVe, htt]; exact atA_set hi2
   have hal : (atA ts ss (i + 1)).length = ss.length := atA_len ts ss (by omega)
   have hget : ∀ k (h : k < (kidsOf t).length), gi (atA ts ss (i + 1)) (ix ss (kidsOf t)[k]) = (ix U (kidsOf t)[k] : Int) := by
    intro k h
    rw [atA_get (hkid _ (List.getElem_mem h)), hUe]
   have hrt := hr t htm
   have hkl := hs.kid t htm
   clear hTab hlen hsm hsms hr
   cases t with
   | lf v =>
    have hnd : nd ss (.lf v) = ⟨-1, v, []⟩ := rfl
    have hnd2 : nd U (.lf v) = ⟨-1, v, []⟩ := rfl
    rw [hnd] at hg
    rw [hnd2] at ha1 ha2
    have hc := c_TLeaf (nds U) v hUs hts.v (by rw [nds_length]; omega)
    rw [ha1, ha2] at hc
    refine wk1 @hg ?_
    refine callI (hc) ?_
    refine wk2 @hal @hset ?_
    exact ⟨⟨i + 1 + 1, by omega⟩, by simp only [gg, ← hVe]; exact (by first | rfl | simp), by simp only <;> omega⟩
   | br s ks =>
    have hnd2 : nd U (.br s ks) = ⟨s, 0, ks.map fun k => (ix U k : Int)⟩ := rfl
    obtain ⟨kk, hkk⟩ : ∃ kk : List Int, kk = ks.map fun k => (ix U k : Int) := ⟨_, rfl⟩
    have hkkl : kk.length = ks.length := by rw [hkk, List.length_map]
    rw [hnd2, ← hkk] at ha1 ha2
    have hsb : sml (s : Int) := ⟨by omega, hts.s⟩
    have hkm : ∀ x ∈ kk, sml x := fun x hx => by
     rw [hkk] at hx
     obtain ⟨k, hk, rfl⟩ := List.mem_map.mp hx
     have := ix_lt (hkU k hk)
     exact ⟨by omega, by omega⟩
    have hnsm := not_same (U := U) (ks := ks) hkU (hrt s ks rfl)
    rw [← hkk] at hnsm
    have hk3 := hts.k
    simp only [kidsOf] at hkl hget hkid hk3
    have hc := c_TBranch (nds U) s kk hUs hsb hkm (by rw [nds_length]; omega) (by omega) hnsm
    rw [ha1, ha2] at hc
    have hkn : (nd ss (.br s ks)).kids.length = ks.length := nd_klen ss (.br s ks)
    have hsv : (nd ss (.br s ks)).site = (s : Int) := rfl
    have hkb : (kidsOf (.br s ks)).length = ks.length := rfl
    have fk : ints (List.replicate ks.length 0) = ints (kk.take 0 ++ List.replicate (ks.length - 0) 0) := by simp
    refine wk4 @hg @hsv @kidsOf_br @valOf_br ?_
    rw [fk]
    refine run_loop [0, 5, 6, 7, 8, 14, 15, 16, 36, 37, 38] [0, 7, 13, 34, 10000000, 20000000] (α := {k : Nat // k ≤ ks.length})
     (fun k => ⟨[(0, .hp ⟨0, 0⟩ 0 0), (5, .hs ⟨13, 1⟩ 0 ss.length), (6, iv .i64 (i + 1 : Nat)), (7, .hp ⟨7, 1⟩ 0 0), (8, .hs ⟨34, 1⟩ 0 ks.length), (14, .sl 3 (ns (nds ss))), (15, iv .i64 ss.length), (16, iv .i64 (i + 1 : Nat)), (36, .sl 1 (ints (nd ss (.br s ks)).kids)), (37, iv .i64 ks.length), (38, iv .i64 k.1)],
      [(0, ⟨0, true, true, .cells 2 [.agg [.hs ⟨10000000, 1⟩ 0 U.length, .hm ⟨20000000, 1⟩]]⟩), (7, ⟨1, true, true, .cells 3 [.agg [iv .i64 (s : Nat), iv .i64 0, .sl 1 (ints (nd ss (.br s ks)).kids)]]⟩), (13, ⟨1, true, false, .cells 1 (ints (atA ts ss (i + 1)))⟩),
       (34, ⟨1, true, false, .cells 1 (ints (kk.take k.1 ++ List.replicate (ks.length - k.1) 0))⟩), (10000000, ⟨1, true, false, .cells 3 (ns (nds U))⟩), (20000000, ⟨1, true, false, .map .str (entL (nds U))⟩)]⟩)
     (fun k => ks.length - k.1) ⟨0, Nat.zero_le _⟩ (by first | rfl | simp) ?_
    rintro ⟨k, hk⟩
    have hzl : (kk.take k ++ List.replicate (ks.length - k) 0).length = ks.length := by simp; omega
    refine wk0 ?_
    refine condK.dec (fun h2 => ?_) (fun h2 => ?_)
    ·have hk2 : k < ks.length := by omega
     obtain ⟨j, hj⟩ : ∃ j, j = ix ss ks[k] := ⟨_, rfl⟩
     have e1 : gi (nd ss (.br s ks)).kids k = (j : Int) := by rw [hj]; exact gi_kid (t := .br s ks) hk2
     have hjl : j < ss.length := by rw [hj]; exact ix_lt (List.mem_of_mem_take (hkid _ (List.getElem_mem hk2)))
     have e2 : gi (atA ts ss (i + 1)) j = gi kk k := by rw [hj, hget k hk2, hkk]; simp [gi, List.getD, hk2]
     have e3 : (kk.take k ++ List.replicate (ks.length - k) 0).set k (gi kk k) = kk.take (k + 1) ++ List.replicate (ks.length - (k + 1)) 0 := by
      have hkl2 : (kk.take k).length = k := by rw [List.length_take]; omega
      rw [List.set_append_right _ _ (by rw [hkl2]; exact Nat.le_refl _), hkl2, Nat.sub_self, show ks.length - k = (ks.length - (k + 1)) + 1 by omega, List.replicate_succ, List.set_cons_zero, gi_take (l := kk) (k := k) (j := k) (by omega) rfl, List.append_assoc]
      rfl
     refine wk4 @e1 @e2 @e3 @hal ?_
     exact ⟨⟨k + 1, by omega⟩, (by first | rfl | simp), by simp only; omega⟩
    ·have hkz : k = ks.length := by omega
     have e4 : kk.take k ++ List.replicate (ks.length - k) 0 = kk := by rw [hkz, Nat.sub_self, ← hkkl, List.take_length]; simp
     have e5 : kk.take ks.length = kk := by rw [← hkkl, List.take_length]
     rw [e4]
     refine wk1 @e5 ?_
     refine callI (hc) ?_
     refine wk2 @hal @hset ?_
     exact ⟨⟨i + 1 + 1, by omega⟩, by simp only [gg, ← hVe]; exact (by first | rfl | simp), by simp only <;> omega⟩
  ·have hss : i + 1 = ss.length := by omega
   have e : ss.take (i + 1) = ss := by rw [hss, List.take_length]
   have e2 : atA ts ss (i + 1) = ss.map fun x => (ix (insL ts ss) x : Int) := by rw [hss, atA_all]
   have e3 : (ss.map fun x => (ix (insL ts ss) x : Int)).length = ss.length := by simp
   have e4 : (ss.map fun x => (ix (insL ts ss) x : Int)).take ss.length = ss.map fun x => (ix (insL ts ss) x : Int) := List.take_of_length_le (by simp)
   rw [e] at hUe
   rw [e2]
   subst hUe
   refine wk1 @e4 ?_
   simp [memOut, lget, VC, packOut, packKeys, cellsOf, cellKeys, disjB, inL, AV.isAgg, cellOut, ns_len, ns_take, List.take_of_length_le]
theorem last_map {E : List Tr} {f : Tr → Int} {t : Tr} (h : E.getLast? = some t) : gi (E.map f) (E.length - 1) = f t := by
 rw [List.getLast?_eq_getElem?] at h
 simp [gi, List.getD, h]
@[go_sem] noncomputable abbrev dgt (E : List Tr) : PA := .data (.agg [.sl 3 (ns (nds E))])
theorem c_Root (ts ss : List Tr) (t : Tr) (ht : Tab ts) (hs : Tab ss) (hr : ∀ t ∈ ss, Rd t) (hst : ∀ t ∈ ts, SmT t) (hsms : ∀ t ∈ ss, SmT t) (hl : ts.length + ss.length < 100) (hlast : ss.getLast? = some t) : CT 105 [tpt ts, dgt ss]
  {val := iv .i64 (ix (insL ts ss) t : Nat), args := [tpt (insL ts ss), dgt ss] } := by
 have hc := c_Import ts ss ht hs hr hst hsms hl
 have hm := last_map (f := fun x => (ix (insL ts ss) x : Int)) hlast
 have h0 : 0 < ss.length := by
  cases ss with
  | nil => simp at hlast
  | cons a ss => simp
 obtain ⟨A, hA⟩ : ∃ A, A = ss.map fun x => (ix (insL ts ss) x : Int) := ⟨_, rfl⟩
 have hAl : A.length = ss.length := by rw [hA, List.length_map]
 rw [← hA] at hc hm
 refine Ctr.intro ⟨Tryz.f105, _, Tryz.call105, Tryz.func105, fold_body (by rfl) (by kernel_rfl), (by simp [Tryz.ntmps105]), (by simp), (by kernel_rfl), ?_⟩
 refine wks ?_
 refine wk0 ?_
 refine callI (hc) ?_
 refine wk2 @hAl @hm ?_
 simp [memOut, lget, VC, packOut, packKeys, cellsOf, cellKeys, disjB, inL, AV.isAgg, cellOut, ns_len, ns_take, List.take_of_length_le]
end Go.Proofs.YteipiejlljnclaaGreatDoor
