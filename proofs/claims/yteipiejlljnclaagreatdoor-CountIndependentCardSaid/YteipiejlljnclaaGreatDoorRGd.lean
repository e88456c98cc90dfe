/- The oracle's order of nodes (exactpplref19): the search from a root. Conditions stand in each. -/
import Derived.Test.YteipiejlljnclaaGreatDoorRGc
set_option linter.unusedVariables false
set_option linter.unusedSimpArgs false
set_option maxRecDepth 10000
set_option maxHeartbeats 8000000
namespace Go.Proofs.YteipiejlljnclaaGreatDoor
open Go Go.AL
attribute [local irreducible] run opK opD callK
attribute [local simp] keep keepEnv keepRows keepAV keepPl keepBody keepElems keepElem keepCells lget inL normG
noncomputable def atv (ts l : List Tr) : List Int := ts.map fun x => if x ∈ l then (ix l x : Int) else -1
theorem atv_len (ts l : List Tr) : (atv ts l).length = ts.length := by simp [atv]
theorem atv_get {ts l : List Tr} {t : Tr} (h : t ∈ ts) : gi (atv ts l) (ix ts t) = if t ∈ l then (ix l t : Int) else -1 := by
 have h1 := ix_lt h
 simp [gi, atv, List.getD, h1, get_ix h]
theorem atv_set {ts l : List Tr} {t : Tr} (hn : ts.Nodup) (h : t ∈ ts) (hl : t ∉ l) : (atv ts l).set (ix ts t) (l.length : Int) = atv ts (l ++ [t]) := by
 apply List.ext_getElem
 ·simp [atv]
 ·intro i h1 h2
  simp only [List.length_set, atv_len] at h1
  rw [List.getElem_set]
  simp only [atv, List.getElem_map]
  by_cases hi : ix ts t = i
  ·subst hi
   rw [if_pos rfl, get_ix h, if_pos (by simp), ix_snoc hl]
  ·rw [if_neg hi]
   have hne : ts[i] ≠ t := fun e => hi (by rw [← e]; exact ix_get hn h1)
   by_cases hm : ts[i] ∈ l
   ·rw [if_pos hm, if_pos (by simp [hm]), ix_pre (List.prefix_append _ _) hm]
   ·rw [if_neg hm, if_neg (by simp [hm, hne])]
theorem atv_nil (ts : List Tr) : atv ts [] = List.replicate ts.length (-1) := by
 apply List.ext_getElem
 ·simp [atv]
 ·intro i h1 h2; simp [atv]
theorem szs_take (ks : List Tr) : ∀ {j : Nat} (h : j < ks.length), szs (ks.take j) + ks[j].sz ≤ szs ks := by
 induction ks with
 | nil => intro j h; simp at h
 | cons k ks ih =>
  intro j h
  cases j with
  | zero => simp [szs]
  | succ j =>
   have := ih (j := j) (by simpa using h)
   simp only [List.take_succ_cons, szs, List.getElem_cons_succ]; omega
theorem enums_take {ks l : List Tr} {j : Nat} (h : j < ks.length) : enums (ks.take (j + 1)) l = enum ks[j] (enums (ks.take j) l) := by
 rw [List.take_succ_eq_append_getElem h]
 generalize ks.take j = a
 induction a generalizing l with
 | nil => simp
 | cons b a ih => simp only [List.cons_append, enums_cons]; exact ih
theorem enums_app (x y l : List Tr) : enums (x ++ y) l = enums y (enums x l) := by
 induction x generalizing l with
 | nil => simp
 | cons b x ih => simp only [List.cons_append, enums_cons]; exact ih _
theorem enums_take_pre (ks : List Tr) (j : Nat) (l : List Tr) : enums (ks.take j) l <+: enums ks l := by
 conv => rhs; rw [← List.take_append_drop j ks, enums_app]
 exact enums_pre _ _
theorem one_take {kk : List Int} (h : 0 < kk.length) : [AV.sc (.int .i64 (gi kk 0))] = ints (kk.take 1) := by
 have := gi_take (l := kk) (k := 0) (j := 0) h rfl
 rw [this]; rfl
theorem end_nil {l e : List Tr} {s v : Int} {kk : List Int} (h : nds l ++ [(⟨s, v, kk⟩ : Nd)] = nds e) (hk : kk.length = 0) : ns (nds l) ++ [AV.agg [.sc (.int .i64 s), .sc (.int .i64 v), .sl 1 []]] = ns (nds e) := by
 rw [← h, ← ns_append, List.eq_nil_of_length_eq_zero hk]; rfl
theorem take_ns (l : List Nd) : (ns l).take l.length = ns l := by rw [ns_take, List.take_length]
@[go_sem] noncomputable abbrev atm (ts l : List Tr) : PA := .slc (.cells 1 (ints (atv ts l)))
theorem c_walk (ts : List Tr) (hts : Tab ts) : ∀ (n : Nat) (t : Tr), t.sz < n → t ∈ ts → ∀ l : List Tr, Clo l → l.Nodup → (∀ x ∈ l, x ∈ ts) → l.length + t.sz < 274877906944 →
  CT 177 [lsd ts, .data (iv .i64 (ix ts t : Nat)), atm ts l, lsm l] { val := .hs ⟨0, 0⟩ 0 (enum t l).length, new := [lsm (enum t l)], args := [lsd ts, .data (iv .i64 (ix ts t : Nat)), atm ts (enum t l), .lost] } := by
 intro n
 induction n with
 | zero => intro t h; omega
 | succ n ih0 =>
 intro t hsz ht l hlc hln hls hlen
 have ih : ∀ c : Tr, c.sz < t.sz → c ∈ ts → ∀ l : List Tr, Clo l → l.Nodup → (∀ x ∈ l, x ∈ ts) → l.length + c.sz < 274877906944 →
  CT 177 [lsd ts, .data (iv .i64 (ix ts c : Nat)), atm ts l, lsm l] { val := .hs ⟨0, 0⟩ 0 (enum c l).length, new := [lsm (enum c l)], args := [lsd ts, .data (iv .i64 (ix ts c : Nat)), atm ts (enum c l), .lost] } :=
  fun c hc => ih0 c (by omega)
 clear ih0 hsz
 obtain ⟨i, hi⟩ : ∃ i, i = ix ts t := ⟨_, rfl⟩
 have hit : i < ts.length := by rw [hi]; exact ix_lt ht
 have htl := hts.len
 have hnl := nds_length ts
 have hal := atv_len ts l
 have hkl := hts.kid t ht
 have hkn := nd_klen ts t
 have hkt : ∀ k ∈ kidsOf t, k ∈ ts := hts.clo.kids ht
 have hti : t = ts[i] := by subst hi; exact (get_ix ht).symm
 have hg : gn (nds ts) i = nd ts t := by rw [gn_nds hit, ← hti]
 have hat : gi (atv ts l) i = if t ∈ l then (ix l t : Int) else -1 := by rw [hi]; exact atv_get ht
 rw [← hi]
 refine Ctr.intro ⟨Tryz.f177, _, Tryz.call177, Tryz.func177, fold_body (by rfl) (by kernel_rfl), (by simp [Tryz.ntmps177]), (by simp), (by kernel_rfl), ?_⟩
 refine wks ?_
 refine wk0 ?_
 by_cases hm : t ∈ l
 ·rw [if_pos hm] at hat
  have he := enum_of_mem hm
  refine wk2 @hat @he ?_
  simp [memOut, lget, VC]
 ·rw [if_neg hm] at hat
  refine wk2 @hat @hg ?_
  refine vcalm (by kernel_rfl) ?_
  obtain ⟨kk, hkk⟩ : ∃ kk : List Int, kk = (kidsOf t).map fun k => (ix (enums (kidsOf t) l) k : Int) := ⟨_, rfl⟩
  have hkkl : kk.length = (kidsOf t).length := by rw [hkk, List.length_map]
  refine wk0 ?_
  rw [hal]
  refine run_loop [0, 1, 2, 3, 9, 10] [2, 3, 9, 49, 30000009] (α := {j : Nat // j ≤ kk.length})
   (fun j => match j.1 with
    | 0 => ⟨[(0, .sl 3 (ns (nds ts))), (1, iv .i64 (i : Nat)), (2, .hs ⟨2, 0⟩ 0 ts.length), (3, .hs ⟨3, 0⟩ 0 l.length), (9, .hp ⟨9, 1⟩ 0 0), (10, iv .i64 0)],
      [(2, ⟨0, true, false, .cells 1 (ints (atv ts l))⟩), (3, ⟨0, true, false, .cells 3 (ns (nds l))⟩), (9, ⟨1, true, true, .cells 3 [.agg [iv .i64 (siteOf t), iv .i64 (valOf t), .hs ⟨30000009, 1⟩ 0 0]]⟩), (30000009, ⟨1, true, false, .cells 1 []⟩)]⟩
    | j + 1 => ⟨[(0, .sl 3 (ns (nds ts))), (1, iv .i64 (i : Nat)), (2, .hs ⟨2, 0⟩ 0 ts.length), (3, .hs ⟨49, 1⟩ 0 (enums ((kidsOf t).take (j + 1)) l).length), (9, .hp ⟨9, 1⟩ 0 0), (10, iv .i64 ((j + 1 : Nat) : Int))],
      [(2, ⟨0, true, false, .cells 1 (ints (atv ts (enums ((kidsOf t).take (j + 1)) l)))⟩), (3, ⟨1, false, false, .cells 0 []⟩), (9, ⟨1, true, true, .cells 3 [.agg [iv .i64 (siteOf t), iv .i64 (valOf t), .hs ⟨30000009, 1⟩ 0 (j + 1)]]⟩),
       (49, ⟨1, true, false, .cells 3 (ns (nds (enums ((kidsOf t).take (j + 1)) l)))⟩), (30000009, ⟨1, true, false, .cells 1 (ints (kk.take (j + 1)))⟩)]⟩)
   (fun j => kk.length - j.1) ⟨0, Nat.zero_le _⟩ (by first | rfl | simp) ?_
  rintro ⟨j, hj⟩
  cases j with
  | zero =>
   have hLc := hlc
   have hLn := hln
   have hLs := hls
   simp only
   refine wk1 @hg ?_
   refine condK.dec (fun h2 => ?_) (fun h2 => ?_)
   ·have hj2 : 0 < (kidsOf t).length := by omega
    obtain ⟨c, hc⟩ : ∃ c, c = (kidsOf t)[0] := ⟨_, rfl⟩
    have hcm : c ∈ kidsOf t := by rw [hc]; exact List.getElem_mem _
    have hct : c ∈ ts := hkt c hcm
    obtain ⟨q, hq⟩ : ∃ q, q = ix ts c := ⟨_, rfl⟩
    have hqt : q < ts.length := by rw [hq]; exact ix_lt hct
    have e1 : gi (nd ts t).kids 0 = (q : Int) := by rw [hq, hc]; exact gi_kid hj2
    have hLj : enum c l = enums ((kidsOf t).take (0 + 1)) l := by rw [enums_take hj2, ← hc] <;> simp
    have hszc : c.sz < t.sz := kid_sz hcm
    have hszt := szs_take (kidsOf t) hj2
    rw [← hc] at hszt
    have hlenj := enum_len'.2 ((kidsOf t).take 0) l
    have hszk : szs (kidsOf t) < t.sz := by cases t <;> simp [kidsOf, szs, Tr.sz]
    have hcall := ih c hszc hct l hLc hLn hLs (by omega)
    rw [hLj, ← hq] at hcall
    have hcin : c ∈ enums ((kidsOf t).take (0 + 1)) l := by rw [← hLj]; exact mem_enum c _
    have e2 : gi (atv ts (enums ((kidsOf t).take (0 + 1)) l)) q = gi kk 0 := by
     rw [hq, atv_get hct, if_pos hcin, hkk]
     have := ix_pre (enums_take_pre (kidsOf t) (0 + 1) l) hcin
     simp [gi, List.getD, hj2, ← hc, this]
    have e3 : kk.take 0 ++ [gi kk 0] = kk.take (0 + 1) := (gi_take (by omega) rfl).symm
    have e4 : (kk.take 0).take 0 = kk.take 0 := by rw [List.take_take, Nat.min_self]
    have e5 : (kk.take 0).length = 0 := by rw [List.length_take]; omega
    have e6a := atv_len ts (enums ((kidsOf t).take (0 + 1)) l)
    have e6c := atv_len ts (enums ((kidsOf t).take 1) l)
    have e6b := atv_len ts l
    have e6 : ∀ x, (atv ts x).length = ts.length := atv_len ts
    have e7 : ∀ x, (atv ts x).take ts.length = atv ts x := fun x => by rw [← e6 x, List.take_length]
    refine wk3 @hg @e1 @e7 ?_
    refine callI (hcall) ?_
    refine wk7 @hg @e1 @e2 @e3 @e4 @e5 @e6 ?_
    refine vcalm (by kernel_rfl) ?_
    have e12 : [AV.sc (.int .i64 (gi kk 0))] = ints (kk.take 1) := one_take (by omega)
    refine wk2 @e3 @e12 ?_
    exact ⟨⟨1, by omega⟩, (by first | rfl | simp), by simp only <;> omega⟩
   ·have hjk : 0 = (kidsOf t).length := by omega
    have hLe : l = enums (kidsOf t) l := by
     have h0 : (kidsOf t).take 0 = kidsOf t := by rw [hjk, List.take_length]
     conv => rhs; rw [← h0]
     first | done | simp
    have hLm : ∀ k ∈ kidsOf t, k ∈ l := fun k hk => by rw [hLe]; exact mem_enums hk
    have hen : enum t l = l ++ [t] := by rw [enum_of_not hm, ← hLe]
    have htL : t ∉ l := by rw [hLe]; exact not_kids hm
    have e4 : kk.take 0 = kk := by rw [hjk, ← hkkl, List.take_length]
    have e8 : nds l ++ [(⟨siteOf t, valOf t, kk⟩ : Nd)] = nds (enum t l) := by
     rw [hen, nds_snoc hLc hLm, hkk, ← hLe]; rfl
    have e9 : (atv ts l).set i ((l).length : Int) = atv ts (enum t l) := by rw [hen, hi]; exact atv_set hts.nod ht htL
    have e10 : (enum t l).length = (l).length + 1 := by rw [hen]; simp
    have e11 : (nds (enum t l)).take ((l).length + 1) = nds (enum t l) := by rw [← e10]; exact take_nds _
    have e6 : ∀ x, (atv ts x).length = ts.length := atv_len ts
    have hlenL := enum_len t l
    have e6b := atv_len ts l
    have e13 : (kk.take 0).length = 0 := by rw [e4, hjk, hkkl]
    have e16 := end_nil e8 (by omega)
    refine wk8 @e6 @e9 @e4 @e8 @e10 @e11 @e16 @hkkl ?_
    simp [memOut, lget, VC]
  | succ j =>
   have hLc : Clo (enums ((kidsOf t).take (j + 1)) l) := enums_clo hlc
   have hLn : (enums ((kidsOf t).take (j + 1)) l).Nodup := enums_nodup hln
   have hLs : ∀ x ∈ enums ((kidsOf t).take (j + 1)) l, x ∈ ts := enums_all (fun t ht k hk => hts.clo.kids ht k hk) (fun k hk => hkt k (List.mem_of_mem_take hk)) hls
   simp only
   refine wk1 @hg ?_
   refine condK.dec (fun h2 => ?_) (fun h2 => ?_)
   ·have hj2 : (j + 1) < (kidsOf t).length := by omega
    obtain ⟨c, hc⟩ : ∃ c, c = (kidsOf t)[(j + 1)] := ⟨_, rfl⟩
    have hcm : c ∈ kidsOf t := by rw [hc]; exact List.getElem_mem _
    have hct : c ∈ ts := hkt c hcm
    obtain ⟨q, hq⟩ : ∃ q, q = ix ts c := ⟨_, rfl⟩
    have hqt : q < ts.length := by rw [hq]; exact ix_lt hct
    have e1 : gi (nd ts t).kids (j + 1) = (q : Int) := by rw [hq, hc]; exact gi_kid hj2
    have hLj : enum c (enums ((kidsOf t).take (j + 1)) l) = enums ((kidsOf t).take ((j + 1) + 1)) l := by rw [enums_take hj2, ← hc] <;> simp
    have hszc : c.sz < t.sz := kid_sz hcm
    have hszt := szs_take (kidsOf t) hj2
    rw [← hc] at hszt
    have hlenj := enum_len'.2 ((kidsOf t).take (j + 1)) l
    have hszk : szs (kidsOf t) < t.sz := by cases t <;> simp [kidsOf, szs, Tr.sz]
    have hcall := ih c hszc hct (enums ((kidsOf t).take (j + 1)) l) hLc hLn hLs (by omega)
    rw [hLj, ← hq] at hcall
    have hcin : c ∈ enums ((kidsOf t).take ((j + 1) + 1)) l := by rw [← hLj]; exact mem_enum c _
    have e2 : gi (atv ts (enums ((kidsOf t).take ((j + 1) + 1)) l)) q = gi kk (j + 1) := by
     rw [hq, atv_get hct, if_pos hcin, hkk]
     have := ix_pre (enums_take_pre (kidsOf t) ((j + 1) + 1) l) hcin
     simp [gi, List.getD, hj2, ← hc, this]
    have e3 : kk.take (j + 1) ++ [gi kk (j + 1)] = kk.take ((j + 1) + 1) := (gi_take (by omega) rfl).symm
    have e4 : (kk.take (j + 1)).take (j + 1) = kk.take (j + 1) := by rw [List.take_take, Nat.min_self]
    have e5 : (kk.take (j + 1)).length = (j + 1) := by rw [List.length_take]; omega
    have e6a := atv_len ts (enums ((kidsOf t).take ((j + 1) + 1)) l)
    have e6c := atv_len ts (enums ((kidsOf t).take (j + 2)) l)
    have e6b := atv_len ts (enums ((kidsOf t).take (j + 1)) l)
    have e6 : ∀ x, (atv ts x).length = ts.length := atv_len ts
    have e7 : ∀ x, (atv ts x).take ts.length = atv ts x := fun x => by rw [← e6 x, List.take_length]
    refine wk3 @hg @e1 @e7 ?_
    refine callI (hcall) ?_
    refine wk7 @hg @e1 @e2 @e3 @e4 @e5 @e6 ?_
    refine vcalm (by kernel_rfl) ?_
    have e12 := e3
    refine wk2 @e3 @e12 ?_
    exact ⟨⟨(j + 2), by omega⟩, (by first | rfl | simp), by simp only <;> omega⟩
   ·have hjk : (j + 1) = (kidsOf t).length := by omega
    have hLe : (enums ((kidsOf t).take (j + 1)) l) = enums (kidsOf t) l := by
     have h0 : (kidsOf t).take (j + 1) = kidsOf t := by rw [hjk, List.take_length]
     conv => rhs; rw [← h0]
     first | done | simp
    have hLm : ∀ k ∈ kidsOf t, k ∈ (enums ((kidsOf t).take (j + 1)) l) := fun k hk => by rw [hLe]; exact mem_enums hk
    have hen : enum t l = (enums ((kidsOf t).take (j + 1)) l) ++ [t] := by rw [enum_of_not hm, ← hLe]
    have htL : t ∉ (enums ((kidsOf t).take (j + 1)) l) := by rw [hLe]; exact not_kids hm
    have e4 : kk.take (j + 1) = kk := by rw [hjk, ← hkkl, List.take_length]
    have e8 : nds (enums ((kidsOf t).take (j + 1)) l) ++ [(⟨siteOf t, valOf t, kk⟩ : Nd)] = nds (enum t l) := by
     rw [hen, nds_snoc hLc hLm, hkk, ← hLe]; rfl
    have e9 : (atv ts (enums ((kidsOf t).take (j + 1)) l)).set i (((enums ((kidsOf t).take (j + 1)) l)).length : Int) = atv ts (enum t l) := by rw [hen, hi]; exact atv_set hts.nod ht htL
    have e10 : (enum t l).length = ((enums ((kidsOf t).take (j + 1)) l)).length + 1 := by rw [hen]; simp
    have e11 : (nds (enum t l)).take (((enums ((kidsOf t).take (j + 1)) l)).length + 1) = nds (enum t l) := by rw [← e10]; exact take_nds _
    have e6 : ∀ x, (atv ts x).length = ts.length := atv_len ts
    have hlenL := enum_len t l
    have e6b := atv_len ts (enums ((kidsOf t).take (j + 1)) l)
    have e13 : (kk.take (j + 1)).length = (j + 1) := by rw [e4, hjk, hkkl]
    have e16 := e8
    refine wk8 @e6 @e9 @e4 @e8 @e10 @e11 @e16 @hkkl ?_
    simp [memOut, lget, VC]
end Go.Proofs.YteipiejlljnclaaGreatDoor
