/- The program's tables of nodes (graph): the diagram that is exported. Conditions stand in each. -/
import Derived.Test.YteipiejlljnclaaGreatDoorRHc
set_option linter.unusedVariables false
set_option linter.unusedSimpArgs false
set_option maxRecDepth 10000
set_option maxHeartbeats 16000000
namespace Go.Proofs.YteipiejlljnclaaGreatDoor
open Go Go.AL
attribute [local irreducible] run opK opD callK
attribute [local simp] keep keepEnv keepRows keepAV keepPl keepBody keepElems keepElem keepCells lget inL normG
noncomputable def stE (ts : List Tr) (x : Tr × Nat) : AV := .agg [.sc (.int .i64 (ix ts x.1 : Nat)), .sc (.int .i64 (x.2 : Nat))]
noncomputable def svs (ts : List Tr) (S : List (Tr × Nat)) : List AV := S.reverse.map (stE ts)
theorem svs_len (ts : List Tr) (S : List (Tr × Nat)) : (svs ts S).length = S.length := by simp [svs]
theorem svs_cons (ts : List Tr) (x : Tr × Nat) (S : List (Tr × Nat)) (J : List AV) : svs ts (x :: S) ++ J = svs ts S ++ (stE ts x :: J) := by simp [svs]
theorem at_mid {A J : List AV} {x : AV} {n : Nat} (h : A.length = n) : at_ (A ++ x :: J) n = x := by subst h; simp [at_, List.getD]
theorem set_mid {A J : List AV} {x y : AV} {n : Nat} (h : A.length = n) : (A ++ x :: J).set n y = A ++ y :: J := by subst h; simp
theorem take_mid {A J : List AV} {n : Nat} (h : A.length = n) : (A ++ J).take n = A := by subst h; simp
noncomputable def plm (ts l : List Tr) : List (AV × AV) := l.zipIdx.map fun x => (.sc (.int .i64 (ix ts x.1 : Nat)), .sc (.int .i64 (x.2 : Nat)))
theorem plm_snoc (ts l : List Tr) (t : Tr) : plm ts (l ++ [t]) = plm ts l ++ [(.sc (.int .i64 (ix ts t : Nat)), .sc (.int .i64 (l.length : Nat)))] := by simp [plm, List.zipIdx_append]
theorem mget_plgo {ts : List Tr} {t : Tr} (ht : t ∈ ts) : ∀ {l : List Tr} (k : Nat), (∀ x ∈ l, x ∈ ts) → mget (.sc (.int .i64 (ix ts t : Nat))) ((l.zipIdx k).map fun x => (.sc (.int .i64 (ix ts x.1 : Nat)), .sc (.int .i64 (x.2 : Nat)))) = if t ∈ l then some (.sc (.int .i64 ((k + l.idxOf t : Nat) : Int))) else none
 | [], k, _ => rfl
 | m :: l, k, h => by
  have hm := h m (by simp)
  have hk : keyEq (.sc (.int .i64 (ix ts t : Nat))) (.sc (.int .i64 (ix ts m : Nat))) = decide (t = m) := by
   show ((ix ts t : Int) == (ix ts m : Int)) = _
   by_cases e : t = m
   ·simp [e]
   ·have : ix ts t ≠ ix ts m := fun h => e (ix_inj ht hm h)
    simp [e]; omega
  simp only [List.zipIdx_cons, List.map_cons, mget, hk]
  rw [mget_plgo ht (k + 1) fun x hx => h x (by simp [hx])]
  by_cases e : t = m
  ·subst e; simp
  ·have e' : ¬ m = t := fun h => e h.symm
   simp only [e, decide_false, Bool.false_eq_true, if_false, List.mem_cons, false_or]
   split
   ·rw [List.idxOf_cons, show (m == t) = false by simpa using e']
    simp only [cond_false]
    congr 4
    omega
   ·rfl
theorem mget_pl {ts l : List Tr} {t : Tr} (ht : t ∈ ts) (h : ∀ x ∈ l, x ∈ ts) : mget (.sc (.int .i64 (ix ts t : Nat))) (plm ts l) = if t ∈ l then some (.sc (.int .i64 (ix l t : Nat))) else none := by
 have := mget_plgo ht 0 h
 simpa [plm, ix] using this
theorem mset_pl {ts l : List Tr} {t : Tr} (ht : t ∈ ts) (h : ∀ x ∈ l, x ∈ ts) (hm : t ∉ l) : mset (.sc (.int .i64 (ix ts t : Nat))) (.sc (.int .i64 (l.length : Nat))) (plm ts l) = plm ts (l ++ [t]) := by
 rw [mset_new (by rw [mget_pl ht h, if_neg hm]), plm_snoc]
theorem fin_pre : ∀ (S : List (Tr × Nat)) (l : List Tr), l <+: fin S l
 | [], l => List.prefix_refl l
 | x :: S, l => ((enums_pre _ l).trans (List.prefix_append _ _)).trans (fin_pre S _)
def stkB (M : Nat) : List (Tr × Nat) → Prop
 | [] => True
 | x :: S => S.length + x.1.sz ≤ M ∧ stkB M S
theorem c_Export (ts : List Tr) (r : Tr) (hts : Tab ts) (hr : r ∈ ts) (hE : (enum r []).length < 20000) (hz : r.sz < 274877906944) : CT 66 [tpt ts, .data (iv .i64 (ix ts r : Nat))]
  {val := .tup [.agg [.sl 3 (ns (nds (enum r [])))], .sc (.bool true)], args := [tpt ts, .data (iv .i64 (ix ts r : Nat))] } := by
 have htl := hts.len
 have hnl := nds_length ts
 refine Ctr.intro ⟨Tryz.f66, _, Tryz.call66, Tryz.func66, fold_body (by rfl) (by kernel_rfl), (by simp [Tryz.ntmps66]), (by simp), (by kernel_rfl), ?_⟩
 refine wks ?_
 refine wk0 ?_
 refine run_loop [0, 4, 6, 7, 8] [0, 4, 7, 17, 20, 10000000, 10000004, 20000000] (α := {s : List (Tr × Nat) × List Tr × List AV // SOK ts s.2.1 none s.1 ∧ Clo s.2.1 ∧ s.2.1.Nodup ∧ (∀ x ∈ s.2.1, x ∈ ts) ∧ fin s.1 s.2.1 = enum r [] ∧ stkB r.sz s.1})
  (fun s => ⟨[(0, .hp ⟨0, 0⟩ 0 0), (4, .hp ⟨4, 1⟩ 0 0), (6, .hm ⟨17, 1⟩), (7, .hs ⟨7, 1⟩ 0 s.1.2.1.length), (8, .hs ⟨20, 1⟩ 0 s.1.1.length)],
   [(0, ⟨0, true, true, .cells 2 [.agg [.hs ⟨10000000, 0⟩ 0 ts.length, .hm ⟨20000000, 0⟩]]⟩), (4, ⟨1, true, true, .cells 1 [.agg [.hs ⟨10000004, 1⟩ 0 0]]⟩), (7, ⟨1, true, false, .cells 3 (ns (nds s.1.2.1))⟩), (17, ⟨1, true, false, .map (.int .i64) (plm ts s.1.2.1)⟩),
    (20, ⟨1, true, false, .cells 2 (svs ts s.1.1 ++ s.1.2.2)⟩), (10000000, ⟨0, true, false, .cells 3 (ns (nds ts))⟩), (10000004, ⟨1, true, false, .cells 3 []⟩), (20000000, ⟨0, true, false, .map .str (entL (nds ts))⟩)]⟩)
  (fun s => rest s.1.1 s.1.2.1) ⟨([(r, 0)], [], []), SOK.ends r hr (by simp), Clo.nil, List.nodup_nil, by simp, fin_root (by simp), by simp [stkB]⟩ (by first | rfl | simp) ?_
 rintro ⟨⟨S, L, J⟩, hS, hLc, hLn, hLs, hF, hB⟩
 simp only at hS hLc hLn hLs hF hB
 have hpre := fin_pre S L
 rw [hF] at hpre
 cases S with
 | nil =>
  simp only [fin] at hF
  subst hF
  refine wk0 ?_
  refine ⟨Or.inr ?_, ?_⟩
  ·simp [memOut, lget, VC, packOut, packKeys, cellsOf, cellKeys, disjB, inL, AV.isAgg, cellOut, cellsOut, hsOut, ns_len, ns_take, List.take_of_length_le]
  ·simp [memOut, lget, VC, packOut, packKeys, cellsOf, cellKeys, disjB, inL, AV.isAgg, cellOut, cellsOut, hsOut, ns_len, ns_take, List.take_of_length_le]
 | cons x S =>
  obtain ⟨t, n⟩ := x
  have htts : t ∈ ts := hS.1
  obtain ⟨q, hq⟩ : ∃ q, q = ix ts t := ⟨_, rfl⟩
  have hqt : q < ts.length := by rw [hq]; exact ix_lt htts
  have hg : gn (nds ts) q = nd ts t := by subst hq; rw [gn_nds hqt, get_ix htts]
  have hkl := hts.kid t htts
  have hkn := nd_klen ts t
  have hsl := svs_len ts S
  have hB1 : S.length + t.sz ≤ r.sz := hB.1
  have e0 : svs ts ((t, n) :: S) ++ J = svs ts S ++ (.agg [.sc (.int .i64 (q : Nat)), .sc (.int .i64 (n : Nat))] :: J) := by rw [svs_cons, hq]; rfl
  have e1 : at_ (svs ts S ++ (.agg [.sc (.int .i64 (q : Nat)), .sc (.int .i64 (n : Nat))] :: J)) S.length = .agg [.sc (.int .i64 (q : Nat)), .sc (.int .i64 (n : Nat))] := at_mid hsl
  have e2 : ((((S.length + 1 : Nat) : Int)) - 1).toNat = S.length := by omega
  simp only [e0]
  refine wk4 @hsl @e1 @e2 @hg ?_
  refine vcalm (by kernel_rfl) ?_
  refine wk4 @hsl @e1 @e2 @hg ?_
  refine vcalm (by kernel_rfl) ?_
  refine wk4 @hsl @e1 @e2 @hg ?_
  refine condK.dec (fun h => ?_) (fun h => ?_)
  ·have hn2 : n < (kidsOf t).length := by omega
   obtain ⟨c, hc⟩ : ∃ c, c = (kidsOf t)[n] := ⟨_, rfl⟩
   have hck : c ∈ kidsOf t := by rw [hc]; exact List.getElem_mem _
   have hct : c ∈ ts := hts.clo.kids htts c hck
   have e3 : gi (nd ts t).kids n = (ix ts c : Int) := by rw [hc]; exact gi_kid hn2
   have e4 : (svs ts S ++ (.agg [.sc (.int .i64 (q : Nat)), .sc (.int .i64 (n : Nat))] :: J)).set S.length (.agg [.sc (.int .i64 (q : Nat)), .sc (.int .i64 ((n : Int) + 1))]) = svs ts ((t, n + 1) :: S) ++ J := by
    rw [set_mid hsl, svs_cons, hq]; rfl
   have hmg := mget_pl (l := L) hct hLs
   refine wk5 @hsl @e1 @e2 @hg @e3 ?_
   refine vcalm (by kernel_rfl) ?_
   refine wk6 @hsl @e1 @e2 @hg @e3 @e4 ?_
   by_cases hcl : c ∈ L
   ·rw [if_pos hcl] at hmg
    refine wk2 @hmg @e4 ?_
    have hf := fin_old (S := S) (l := L) hn2 (by rw [← hc]; exact hcl)
    exact ⟨⟨((t, n + 1) :: S, L, J), hS.old hn2 (by rw [← hc]; exact hcl), hLc, hLn, hLs, by rw [← hF]; exact hf.1, hB.1, hB.2⟩, (by first | rfl | simp), hf.2⟩
   ·rw [if_neg hcl] at hmg
    have e5 : (svs ts ((t, n + 1) :: S)).length = S.length + 1 := by rw [svs_len]; rfl
    have e6 : (svs ts ((t, n + 1) :: S) ++ J).take (S.length + 1) = svs ts ((t, n + 1) :: S) := take_mid e5
    have e7 : svs ts ((t, n + 1) :: S) ++ [.agg [.sc (.int .i64 (ix ts c : Nat)), .sc (.int .i64 0)]] = svs ts ((c, 0) :: (t, n + 1) :: S) := by simp [svs, stE]
    refine wk4 @hmg @e4 @e6 @e7 ?_
    have hf := fin_new (S := S) (l := L) hn2 (by rw [← hc]; exact hcl)
    have hp := hS.push hts.clo hn2 (by rw [← hc]; exact hcl)
    rw [← hc] at hf hp
    have hcs := kid_sz hck
    refine ⟨⟨((c, 0) :: (t, n + 1) :: S, L, []), hp, hLc, hLn, hLs, by rw [← hF]; exact hf.1, ?_, hB.1, hB.2⟩, ?_, hf.2⟩
    ·simp only [List.length_cons]; omega
    ·simp only [List.append_nil]; exact (by first | rfl | simp)
  ·have hn2 : (kidsOf t).length ≤ n := by omega
   have hall := hS.all_kids hn2
   have hf := fin_pop (S := S) (l := L) hn2
   have hLl : L.length + 1 ≤ (enum r []).length := by
    have h1 := fin_pre S (L ++ [t])
    rw [hf.1, hF] at h1
    have := h1.length_le
    simpa using this
   have htL : t ∉ L := hS.2.1
   obtain ⟨kk, hkk⟩ : ∃ kk : List Int, kk = (kidsOf t).map fun k => (ix L k : Int) := ⟨_, rfl⟩
   have hkkl : kk.length = (kidsOf t).length := by rw [hkk, List.length_map]
   refine wk3 @hsl @e1 @e2 ?_
   refine run_loop [0, 4, 6, 7, 8, 9, 14, 90, 91, 92] [0, 4, 7, 14, 17, 20, 10000000, 10000004, 20000000, 30000014] (α := {k : Nat // k ≤ kk.length})
    (fun k => ⟨[(0, .hp ⟨0, 0⟩ 0 0), (4, .hp ⟨4, 1⟩ 0 0), (6, .hm ⟨17, 1⟩), (7, .hs ⟨7, 1⟩ 0 L.length), (8, .hs ⟨20, 1⟩ 0 S.length), (9, .hp ⟨20, 1⟩ S.length 0), (14, .hp ⟨14, 1⟩ 0 0), (90, .sl 1 (ints (nd ts t).kids)), (91, iv .i64 (kidsOf t).length), (92, iv .i64 k.1)],
     [(0, ⟨0, true, true, .cells 2 [.agg [.hs ⟨10000000, 0⟩ 0 ts.length, .hm ⟨20000000, 0⟩]]⟩), (4, ⟨1, true, true, .cells 1 [.agg [.hs ⟨10000004, 1⟩ 0 0]]⟩), (7, ⟨1, true, false, .cells 3 (ns (nds L))⟩), (14, ⟨1, true, true, .cells 3 [.agg [iv .i64 (siteOf t), iv .i64 (valOf t), .hs ⟨30000014, 1⟩ 0 k.1]]⟩), (17, ⟨1, true, false, .map (.int .i64) (plm ts L)⟩),
      (20, ⟨1, true, false, .cells 2 (svs ts S ++ (.agg [.sc (.int .i64 (q : Nat)), .sc (.int .i64 (n : Nat))] :: J))⟩), (10000000, ⟨0, true, false, .cells 3 (ns (nds ts))⟩), (10000004, ⟨1, true, false, .cells 3 []⟩), (20000000, ⟨0, true, false, .map .str (entL (nds ts))⟩), (30000014, ⟨1, true, false, .cells 1 (ints (kk.take k.1))⟩)]⟩)
    (fun k => kk.length - k.1) ⟨0, Nat.zero_le _⟩ (by first | rfl | simp) ?_
   rintro ⟨k, hk⟩
   refine wk0 ?_
   refine condK.dec (fun h2 => ?_) (fun h2 => ?_)
   ·have hk2 : k < (kidsOf t).length := by omega
    obtain ⟨c, hc⟩ : ∃ c, c = (kidsOf t)[k] := ⟨_, rfl⟩
    have hck : c ∈ kidsOf t := by rw [hc]; exact List.getElem_mem _
    have e3 : gi (nd ts t).kids k = (ix ts c : Int) := by rw [hc]; exact gi_kid hk2
    have hmg := mget_pl (l := L) (hts.clo.kids htts c hck) hLs
    rw [if_pos (hall c hck)] at hmg
    have e4 : (ix L c : Int) = gi kk k := by rw [hkk, hc]; simp [gi, List.getD, hk2]
    have e5 : kk.take k ++ [gi kk k] = kk.take (k + 1) := (gi_take (by omega) rfl).symm
    have e6 : (kk.take k).take k = kk.take k := by rw [List.take_take, Nat.min_self]
    have e7 : (kk.take k).length = k := by rw [List.length_take]; omega
    refine wk6 @e3 @hmg @e4 @e5 @e6 @e7 ?_
    exact ⟨⟨k + 1, by omega⟩, (by first | rfl | simp), by simp only; omega⟩
   ·have hkz : k = kk.length := by omega
    have e4 : kk.take k = kk := by rw [hkz, List.take_length]
    have e5 : kk.take kk.length = kk := List.take_length
    have hms := mset_pl htts hLs htL
    rw [← hq] at hms
    have e8 : nds L ++ [(⟨siteOf t, valOf t, kk⟩ : Nd)] = nds (L ++ [t]) := by rw [nds_snoc hLc hall, hkk]; rfl
    rw [e4, hkz]
    refine wk5 @hsl @e1 @hms @e5 @e8 ?_
    refine ⟨⟨(S, L ++ [t], .agg [.sc (.int .i64 (q : Nat)), .sc (.int .i64 (n : Nat))] :: J), hS.pop, hLc.snoc hall, ?_, ?_, by rw [hf.1, hF], hB.2⟩, ?_, hf.2⟩
    ·exact List.nodup_append.mpr ⟨hLn, by simp, by intro a ha b hb; rw [List.mem_singleton.mp hb]; rintro rfl; exact htL ha⟩
    ·intro x hx
     rcases List.mem_append.mp hx with hx | hx
     ·exact hLs x hx
     ·rw [List.mem_singleton.mp hx]; exact htts
    ·simp only [List.length_append, List.length_cons, List.length_nil, Nat.zero_add]; exact (by first | rfl | simp)
end Go.Proofs.YteipiejlljnclaaGreatDoor
