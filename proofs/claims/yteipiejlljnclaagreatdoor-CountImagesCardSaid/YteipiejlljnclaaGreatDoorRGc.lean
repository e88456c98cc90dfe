/- The oracle's tables of nodes (exactpplref19): adding a diagram. Conditions stand in each. -/
import Derived.Test.YteipiejlljnclaaGreatDoorRGa
set_option linter.unusedVariables false
set_option linter.unusedSimpArgs false
set_option maxRecDepth 10000
set_option maxHeartbeats 8000000
namespace Go.Proofs.YteipiejlljnclaaGreatDoor
open Go Go.AL
attribute [local irreducible] run opK opD callK
attribute [local simp] keep keepEnv keepRows keepAV keepPl keepBody keepElems keepElem keepCells lget inL normG
theorem gn_nds {l : List Tr} {i : Nat} (h : i < l.length) : gn (nds l) i = nd l l[i] := by simp [gn, List.getD, nds, h]
@[go_sem] noncomputable abbrev lsd (l : List Tr) : PA := .data (.sl 3 (ns (nds l)))
@[go_sem] noncomputable abbrev lsm (l : List Tr) : PA := .slc (.cells 3 (ns (nds l)))
theorem gi_take {l : List Int} {k j : Nat} (h : k < l.length) (hj : j = k) : l.take (k + 1) = l.take k ++ [gi l j] := by
 subst hj
 rw [List.take_succ_eq_append_getElem h]; simp [gi, List.getD, h]
structure Tab (ts : List Tr) : Prop where
 clo : Clo ts
 nod : ts.Nodup
 len : ts.length < 274877906944
 kid : ∀ t ∈ ts, (kidsOf t).length < 274877906944
theorem nds_kid {l : List Tr} (h : ∀ t ∈ l, (kidsOf t).length < 274877906944) : ∀ m ∈ nds l, m.kids.length < 4611686018427387904 := by
 intro m hm
 obtain ⟨t, ht, rfl⟩ := List.mem_map.mp hm
 have := h t ht
 simp only [nd, List.length_map]; omega
theorem nd_value (l : List Tr) (t : Tr) : (nd l t).value = valOf t := rfl
theorem nd_klen (l : List Tr) (t : Tr) : (nd l t).kids.length = (kidsOf t).length := by simp [nd]
theorem take_nds (l : List Tr) : (nds l).take l.length = nds l := List.take_of_length_le (by simp)
attribute [go_sem] nds_length nd_site nd_value nd_klen take_nds
theorem gi_kid {l : List Tr} {t : Tr} {k : Nat} (h : k < (kidsOf t).length) : gi (nd l t).kids k = (ix l (kidsOf t)[k] : Int) := by simp [gi, List.getD, nd, h]
theorem place_tree {U : List Tr} {t : Tr} {kk : List Int} (hU : Tab U) (hk : ∀ k ∈ kidsOf t, k ∈ U) (hr : Rd t) (hkl : (kidsOf t).length < 274877906944) (hkk : kk = (kidsOf t).map fun k => (ix U k : Int)) :
  CT 110 [lsm U, .data (.agg [.sc (.int .i64 (siteOf t)), .sc (.int .i64 (valOf t)), .sl 1 (ints kk)])]
   {val := .tup [.hs ⟨0, 0⟩ 0 (insT U t).length, iv .i64 (ix (insT U t) t : Int)], new := [lsm (insT U t)], args := [.lost, .data (.agg [.sc (.int .i64 (siteOf t)), .sc (.int .i64 (valOf t)), .sl 1 (ints kk)])] } := by
 have h := c_Place (nds U) (nd U t) (nds_kid hU.kid) (by rw [nd_klen]; omega) (by rw [nds_length]; have := hU.len; omega) (fun h => by
  obtain ⟨s, ks, rfl⟩ := site_br h
  intro e
  have h0 : ks = [] := by simpa [nd, kidsOf] using e
  exact hr s ks rfl (by rw [h0]; trivial))
 rw [plc_nd hU.clo hk hr] at h
 simp only [nds_length] at h
 subst hkk
 exact h
theorem ins_tab {U : List Tr} {t : Tr} (hU : Tab U) (hk : ∀ k ∈ kidsOf t, k ∈ U) (hkl : (kidsOf t).length < 274877906944) (hl : (insT U t).length < 274877906944) : Tab (insT U t) :=
 ⟨ins_clo hU.clo hk, ins_nodup hU.nod, hl, fun x hx => (ins_sub hx).elim (hU.kid x) (fun e => by rw [e]; exact hkl)⟩
theorem c_Append (ts ss : List Tr) (ht : Tab ts) (hs : Tab ss) (hr : ∀ t ∈ ss, Rd t) (hl : ts.length + ss.length < 274877906944) : CT 109 [lsm ts, lsd ss]
  {val := .tup [.hs ⟨0, 0⟩ 0 (insL ts ss).length, .hs ⟨1, 0⟩ 0 ss.length], new := [lsm (insL ts ss), .slc (.cells 1 (ints (ss.map fun x => (ix (insL ts ss) x : Int))))], args := [.lost, lsd ss] } := by
 have hsl := hs.len
 have htl := ht.len
 have fz : ints (List.replicate ss.length 0) = ints (atA ts ss 0) := by rw [atA_zero]
 have hTab : ∀ i, i ≤ ss.length → Tab (insL ts (ss.take i)) := by
  intro i hi
  have hlen := insL_len ts (ss.take i)
  rw [List.length_take] at hlen
  exact ⟨insL_clo ht.clo (hs.clo.take i), insL_nodup ht.nod, by omega, fun x hx => (insL_sub hx).elim (ht.kid x) fun hx => hs.kid x (List.mem_of_mem_take hx)⟩
 refine Ctr.intro ⟨Tryz.f109, _, Tryz.call109, Tryz.func109, fold_body (by rfl) (by kernel_rfl), (by simp [Tryz.ntmps109]), (by simp), (by kernel_rfl), ?_⟩
 refine wks ?_
 refine wk0 ?_
 rw [fz]
 refine run_loop [0, 1, 6, 7] [0, 12, 61] (α := {i : Nat // i ≤ ss.length})
  (fun i => match i.1 with
   | 0 => ⟨[(0, .hs ⟨0, 0⟩ 0 ts.length), (1, .sl 3 (ns (nds ss))), (6, .hs ⟨12, 1⟩ 0 ss.length), (7, iv .i64 0)], [(0, ⟨0, true, false, .cells 3 (ns (nds ts))⟩), (12, ⟨1, true, false, .cells 1 (ints (atA ts ss 0))⟩)]⟩
   | i + 1 => ⟨[(0, .hs ⟨61, 1⟩ 0 (insL ts (ss.take (i + 1))).length), (1, .sl 3 (ns (nds ss))), (6, .hs ⟨12, 1⟩ 0 ss.length), (7, iv .i64 ((i + 1 : Nat) : Int))],
     [(0, ⟨1, false, false, .cells 0 []⟩), (12, ⟨1, true, false, .cells 1 (ints (atA ts ss (i + 1)))⟩), (61, ⟨1, true, false, .cells 3 (ns (nds (insL ts (ss.take (i + 1)))))⟩)]⟩)
  (fun i => ss.length - i.1) ⟨0, Nat.zero_le _⟩ (by first | rfl | simp) ?_
 rintro ⟨i, hi⟩
 cases i with
 | zero =>
  have hU : Tab ts := ht
  have hUm : ∀ k ∈ ss.take 0, k ∈ ts := by simp
  simp only
  refine wk0 ?_
  refine condK.dec (fun h => ?_) (fun h => ?_)
  ·have hi2 : ss.length > 0 := by omega
   have hnl := nds_length ss
   have hkn := fun t => nd_klen ss t
   obtain ⟨t, htt⟩ : ∃ t, t = ss[0] := ⟨_, rfl⟩
   have hg : gn (nds ss) 0 = nd ss t := by rw [htt]; exact gn_nds hi2
   have htm : t ∈ ss := by rw [htt]; exact List.getElem_mem _
   have hkid : ∀ k ∈ kidsOf t, k ∈ ss.take 0 := by rw [htt]; exact hs.clo.at hi2
   have hkU : ∀ k ∈ kidsOf t, k ∈ ts := fun k hk => hUm k (hkid k hk)
   have hV : insT ts t = insL ts (ss.take (0 + 1)) := by rw [List.take_succ_eq_append_getElem hi2, insL_snoc, ← htt] <;> simp
   obtain ⟨kk, hkk⟩ : ∃ kk : List Int, kk = (kidsOf t).map fun k => (ix ts k : Int) := ⟨_, rfl⟩
   have hkkl : kk.length = (kidsOf t).length := by rw [hkk, List.length_map]
   have hkl := hs.kid t htm
   have hkn := hkn t
   have hpl := place_tree (t := t) (kk := kk) hU hkU (hr t htm) hkl hkk
   rw [hV] at hpl
   have hset : (atA ts ss 0).set 0 (ix (insL ts (ss.take (0 + 1))) t : Int) = atA ts ss (0 + 1) := by rw [htt]; exact atA_set hi2
   have hal : (atA ts ss 0).length = ss.length := atA_len ts ss (by omega)
   have hget : ∀ k (h : k < (kidsOf t).length), gi (atA ts ss 0) (ix ss (kidsOf t)[k]) = gi kk k := by
    intro k h
    rw [atA_get (hkid _ (List.getElem_mem h)), hkk]
    simp [gi, List.getD, h]
   refine wk1 @hg ?_
   refine vcalm (by kernel_rfl) ?_
   refine wk0 ?_
   refine run_loop [0, 1, 6, 7, 8, 9] [0, 8, 12, 61, 30000008] (α := {k : Nat // k ≤ kk.length})
    (fun k => ⟨[(0, .hs ⟨0, 0⟩ 0 ts.length), (1, .sl 3 (ns (nds ss))), (6, .hs ⟨12, 1⟩ 0 ss.length), (7, iv .i64 (0 : Nat)), (8, .hp ⟨8, 1⟩ 0 0), (9, iv .i64 k.1)],
     [(0, ⟨0, true, false, .cells 3 (ns (nds ts))⟩), (8, ⟨1, true, true, .cells 3 [.agg [iv .i64 (siteOf t), iv .i64 (valOf t), .hs ⟨30000008, 1⟩ 0 k.1]]⟩), (12, ⟨1, true, false, .cells 1 (ints (atA ts ss 0))⟩),  (30000008, ⟨1, true, false, .cells 1 (ints (kk.take k.1))⟩)]⟩)
    (fun k => kk.length - k.1) ⟨0, Nat.zero_le _⟩ (by first | rfl | simp) ?_
   rintro ⟨k, hk⟩
   refine wk1 @hg ?_
   refine condK.dec (fun h2 => ?_) (fun h2 => ?_)
   ·have hk2 : k < (kidsOf t).length := by omega
    obtain ⟨j, hj⟩ : ∃ j, j = ix ss (kidsOf t)[k] := ⟨_, rfl⟩
    have e1 : gi (nd ss t).kids k = (j : Int) := by rw [hj]; exact gi_kid hk2
    have hjl : j < ss.length := by rw [hj]; exact ix_lt (List.mem_of_mem_take (hkid _ (List.getElem_mem hk2)))
    have e2 : gi (atA ts ss 0) j = gi kk k := by rw [hj]; exact hget k hk2
    have e3 : kk.take k ++ [gi kk k] = kk.take (k + 1) := (gi_take (by omega) rfl).symm
    have e4 : (kk.take k).take k = kk.take k := by rw [List.take_take, Nat.min_self]
    have e5 : (kk.take k).length = k := by rw [List.length_take]; omega
    refine wk7 @hg @e1 @hal @e2 @e3 @e4 @e5 ?_
    refine vcalm (by kernel_rfl) ?_
    refine wk1 @e3 ?_
    exact ⟨⟨k + 1, by omega⟩, (by first | rfl | simp), by simp only; omega⟩
   ·have hkk2 : k = kk.length := by omega
    subst hkk2
    have e4 : kk.take kk.length = kk := List.take_length
    refine wk1 @e4 ?_
    refine callI (hpl) ?_
    refine wk2 @hal @hset ?_
    skip
    exact ⟨⟨1, by omega⟩, (by first | rfl | simp), by simp only <;> omega⟩
  ·have hss : ss = [] := List.eq_nil_of_length_eq_zero (by omega)
   subst hss
   refine wk0 ?_
   simp [VC, atA, ints]
 | succ i =>
  have hU := hTab (i + 1) hi
  have hUm : ∀ k ∈ ss.take (i + 1), k ∈ insL ts (ss.take (i + 1)) := fun k hk => mem_insL hk
  simp only
  refine wk0 ?_
  refine condK.dec (fun h => ?_) (fun h => ?_)
  ·have hi2 : ss.length > (i + 1) := by omega
   have hnl := nds_length ss
   have hkn := fun t => nd_klen ss t
   obtain ⟨t, htt⟩ : ∃ t, t = ss[(i + 1)] := ⟨_, rfl⟩
   have hg : gn (nds ss) (i + 1) = nd ss t := by rw [htt]; exact gn_nds hi2
   have htm : t ∈ ss := by rw [htt]; exact List.getElem_mem _
   have hkid : ∀ k ∈ kidsOf t, k ∈ ss.take (i + 1) := by rw [htt]; exact hs.clo.at hi2
   have hkU : ∀ k ∈ kidsOf t, k ∈ (insL ts (ss.take (i + 1))) := fun k hk => hUm k (hkid k hk)
   have hV : insT (insL ts (ss.take (i + 1))) t = insL ts (ss.take ((i + 1) + 1)) := by rw [List.take_succ_eq_append_getElem hi2, insL_snoc, ← htt] <;> simp
   obtain ⟨kk, hkk⟩ : ∃ kk : List Int, kk = (kidsOf t).map fun k => (ix (insL ts (ss.take (i + 1))) k : Int) := ⟨_, rfl⟩
   have hkkl : kk.length = (kidsOf t).length := by rw [hkk, List.length_map]
   have hkl := hs.kid t htm
   have hkn := hkn t
   have hpl := place_tree (t := t) (kk := kk) hU hkU (hr t htm) hkl hkk
   rw [hV] at hpl
   have hset : (atA ts ss (i + 1)).set (i + 1) (ix (insL ts (ss.take ((i + 1) + 1))) t : Int) = atA ts ss ((i + 1) + 1) := by rw [htt]; exact atA_set hi2
   have hal : (atA ts ss (i + 1)).length = ss.length := atA_len ts ss (by omega)
   have hget : ∀ k (h : k < (kidsOf t).length), gi (atA ts ss (i + 1)) (ix ss (kidsOf t)[k]) = gi kk k := by
    intro k h
    rw [atA_get (hkid _ (List.getElem_mem h)), hkk]
    simp [gi, List.getD, h]
   refine wk1 @hg ?_
   refine vcalm (by kernel_rfl) ?_
   refine wk0 ?_
   refine run_loop [0, 1, 6, 7, 8, 9] [0, 8, 12, 61, 30000008] (α := {k : Nat // k ≤ kk.length})
    (fun k => ⟨[(0, .hs ⟨61, 1⟩ 0 (insL ts (ss.take (i + 1))).length), (1, .sl 3 (ns (nds ss))), (6, .hs ⟨12, 1⟩ 0 ss.length), (7, iv .i64 ((i + 1) : Nat)), (8, .hp ⟨8, 1⟩ 0 0), (9, iv .i64 k.1)],
     [(0, ⟨1, false, false, .cells 0 []⟩), (8, ⟨1, true, true, .cells 3 [.agg [iv .i64 (siteOf t), iv .i64 (valOf t), .hs ⟨30000008, 1⟩ 0 k.1]]⟩), (12, ⟨1, true, false, .cells 1 (ints (atA ts ss (i + 1)))⟩), (61, ⟨1, true, false, .cells 3 (ns (nds (insL ts (ss.take (i + 1)))))⟩), (30000008, ⟨1, true, false, .cells 1 (ints (kk.take k.1))⟩)]⟩)
    (fun k => kk.length - k.1) ⟨0, Nat.zero_le _⟩ (by first | rfl | simp) ?_
   rintro ⟨k, hk⟩
   refine wk1 @hg ?_
   refine condK.dec (fun h2 => ?_) (fun h2 => ?_)
   ·have hk2 : k < (kidsOf t).length := by omega
    obtain ⟨j, hj⟩ : ∃ j, j = ix ss (kidsOf t)[k] := ⟨_, rfl⟩
    have e1 : gi (nd ss t).kids k = (j : Int) := by rw [hj]; exact gi_kid hk2
    have hjl : j < ss.length := by rw [hj]; exact ix_lt (List.mem_of_mem_take (hkid _ (List.getElem_mem hk2)))
    have e2 : gi (atA ts ss (i + 1)) j = gi kk k := by rw [hj]; exact hget k hk2
    have e3 : kk.take k ++ [gi kk k] = kk.take (k + 1) := (gi_take (by omega) rfl).symm
    have e4 : (kk.take k).take k = kk.take k := by rw [List.take_take, Nat.min_self]
    have e5 : (kk.take k).length = k := by rw [List.length_take]; omega
    refine wk7 @hg @e1 @hal @e2 @e3 @e4 @e5 ?_
    refine vcalm (by kernel_rfl) ?_
    refine wk1 @e3 ?_
    exact ⟨⟨k + 1, by omega⟩, (by first | rfl | simp), by simp only; omega⟩
   ·have hkk2 : k = kk.length := by omega
    subst hkk2
    have e4 : kk.take kk.length = kk := List.take_length
    refine wk1 @e4 ?_
    refine callI (hpl) ?_
    refine wk2 @hal @hset ?_
    skip
    exact ⟨⟨(i + 2), by omega⟩, (by first | rfl | simp), by simp only <;> omega⟩
  ·have hss : i + 1 = ss.length := by omega
   have e : ss.take (i + 1) = ss := by rw [hss, List.take_length]
   have e2 : atA ts ss (i + 1) = ss.map fun x => (ix (insL ts ss) x : Int) := by rw [hss, atA_all]
   have e3 : (atA ts ss (i + 1)).length = ss.length := atA_len ts ss hi
   refine wk1 @e ?_
   exact ⟨⟨Nat.le_refl _, by omega, by rw [← e3, List.take_length, e2]⟩, by simp [VC]⟩
end Go.Proofs.YteipiejlljnclaaGreatDoor
