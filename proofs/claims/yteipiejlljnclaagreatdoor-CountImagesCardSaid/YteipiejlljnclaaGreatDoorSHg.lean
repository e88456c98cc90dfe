/- The program's operators (combine): the limit, sums and products, the functions that hold it. Conditions stand in each. -/
import Derived.Test.YteipiejlljnclaaGreatDoorRCa2
import Derived.Test.YteipiejlljnclaaGreatDoorRHe
set_option linter.unusedVariables false
set_option linter.unusedSimpArgs false
set_option maxRecDepth 10000
set_option maxHeartbeats 16000000
section
namespace Go.Proofs.YteipiejlljnclaaGreatDoor
open Go Go.AL
attribute [local irreducible] run opK opD callK
attribute [local go_sem] frzL frzBox AL.plainAll AL.plainCell
@[go_sem] abbrev bxl : AV := .dp 1 [.sc (.func (.func 141) #[] #[])] 0 0
end Go.Proofs.YteipiejlljnclaaGreatDoor
end
section
namespace Go.Proofs.YteipiejlljnclaaGreatDoor
open Go Go.AL
attribute [local irreducible] run opK opD callK
attribute [local simp] keep keepEnv keepRows keepAV keepPl keepBody keepElems keepElem keepCells lget inL normG
theorem c_TBr0 (l : List Nd) (s : Int) (k : List Int) (hk0 : 0 < k.length) (hkl : k.length < 1000000) (hd : ∀ j, j < k.length → gi k j = gi k 0) :
  CT 65 [tp l, .data (iv .i64 s), idat k] { val := iv .i64 (gi k 0), args := [tp l, .data (iv .i64 s), idat k] } := by
 refine Ctr.intro ⟨Tryz.f65, _, Tryz.call65, Tryz.func65, fold_body (by rfl) (by kernel_rfl), (by simp [Tryz.ntmps65]), (by simp), (by kernel_rfl), ?_⟩
 refine wks ?_
 refine wk0 ?_
 refine run_loop [0, 1, 2, 9, 10, 11] [0, 10000000, 20000000] (α := {i : Nat // i ≤ k.length})
  (fun i => ⟨[(0, .hp ⟨0, 0⟩ 0 0), (1, iv .i64 s), (2, .sl 1 (ints k)), (9, .sl 1 (ints k)), (10, iv .i64 k.length), (11, iv .i64 i.1)],
   [(0, ⟨0, true, true, .cells 2 [.agg [.hs ⟨10000000, 0⟩ 0 l.length, .hm ⟨20000000, 0⟩]]⟩), (10000000, ⟨0, true, false, .cells 3 (ns l)⟩), (20000000, ⟨0, true, false, .map .str (entL l)⟩)]⟩)
  (fun i => k.length - i.1) ⟨0, Nat.zero_le _⟩ (by first | rfl | simp) ?_
 rintro ⟨i, hi⟩
 refine wk0 ?_
 refine condK.dec (fun h => ?_) (fun h => ?_)
 ·refine wk0 ?_
  refine condK.dec (fun h2 => absurd (hd i (by omega)) h2) (fun h2 => ?_)
  refine wk0 ?_
  exact ⟨⟨i + 1, by omega⟩, (by first | rfl | simp), by simp only; omega⟩
 ·refine wk0 ?_
  simp [memOut, lget, VC, packOut, packKeys, cellsOf, cellKeys, disjB, inL, AV.isAgg, cellOut, ns_len, ns_take, List.take_of_length_le]
noncomputable def brT (U : List Tr) (s : Nat) (ks : List Tr) : List Tr := open Classical in if same ks then U else insT U (.br s ks)
theorem brT_pre (U : List Tr) (s : Nat) (ks : List Tr) : U <+: brT U s ks := by
 unfold brT
 split
 ·exact List.prefix_refl U
 ·exact ins_pre _ _
theorem brT_mem {U : List Tr} {s : Nat} {ks : List Tr} (hk : ∀ k ∈ ks, k ∈ U) (h0 : ks ≠ []) : mkbr s ks ∈ brT U s ks := by
 unfold brT mkbr
 split
 ·cases ks with
  | nil => exact absurd rfl h0
  | cons a ks => exact hk a (.head _)
 ·exact mem_ins _ _
theorem c_TBr (U : List Tr) (s : Nat) (ks : List Tr) (hc : Clo U) (hsm : ∀ t ∈ U, SmT t) (hU : U.length < 100) (hk : ∀ k ∈ ks, k ∈ U) (h0 : ks ≠ []) (hkl : ks.length < 1000) (hs : s < 100) :
  CT 65 [tpt U, .data (iv .i64 s), idat (ks.map fun k => (ix U k : Int))] { val := iv .i64 (ix (brT U s ks) (mkbr s ks) : Nat), args := [tpt (brT U s ks), .data (iv .i64 s), idat (ks.map fun k => (ix U k : Int))] } := by
 by_cases h : same ks
 ·have e1 : brT U s ks = U := by unfold brT; rw [if_pos h]
  have e2 : mkbr s ks = ks.headD (.lf 0) := by unfold mkbr; rw [if_pos h]
  rw [e1, e2]
  cases ks with
  | nil => exact absurd rfl h0
  | cons a ks =>
   have hall : ∀ j, j < ((a :: ks).map fun k => (ix U k : Int)).length → gi ((a :: ks).map fun k => (ix U k : Int)) j = (ix U a : Int) := by
    intro j hj
    rw [List.length_map] at hj
    have e : gi ((a :: ks).map fun k => (ix U k : Int)) j = (ix U (a :: ks)[j] : Int) := by
     unfold gi
     rw [List.getD_eq_getElem?_getD, List.getElem?_map, List.getElem?_eq_getElem hj]
     rfl
    rw [e]
    cases j with
    | zero => rfl
    | succ j => rw [List.getElem_cons_succ, h _ (List.getElem_mem _)]
   have h00 := hall 0 (by simp)
   have := c_TBr0 (nds U) s ((a :: ks).map fun k => (ix U k : Int)) (by simp) (by rw [List.length_map]; omega) (fun j hj => by rw [hall j hj, h00])
   rw [h00] at this
   exact this
 ·have e1 : brT U s ks = insT U (.br s ks) := by unfold brT; rw [if_neg h]
  have e2 : mkbr s ks = .br s ks := by unfold mkbr; rw [if_neg h]
  rw [e1, e2]
  obtain ⟨ha1, ha2⟩ := addL_nd (t := .br s ks) hc hk
  have hnd2 : nd U (.br s ks) = ⟨s, 0, ks.map fun k => (ix U k : Int)⟩ := rfl
  rw [hnd2] at ha1 ha2
  have hkm : ∀ x ∈ (ks.map fun k => (ix U k : Int)), sml x := fun x hx => by
   obtain ⟨k, hkk, rfl⟩ := List.mem_map.mp hx
   have := ix_lt (hk k hkk)
   exact ⟨by omega, by omega⟩
  have := c_TBranch (nds U) s (ks.map fun k => (ix U k : Int)) (sml_nds hc hsm hU) ⟨by omega, by omega⟩ hkm (by rw [nds_length]; omega) (by rw [List.length_map]; omega) (not_same hk h)
  rw [ha1, ha2] at this
  exact this
theorem c_end (ts : List Tr) (r : Tr) (hts : Tab ts) (hr : r ∈ ts) (hE : (enum r []).length < 20000) (hz : r.sz < 274877906944) : CT 76 [tpt ts, .data (iv .i64 (ix ts r : Nat))]
  {val := .tup [.agg [.sl 3 (ns (nds (enum r [])))], iv .i64 0], args := [tpt ts, .data (iv .i64 (ix ts r : Nat))] } := by
 have hx := c_Export ts r hts hr hE hz
 generalize enum r [] = E at *
 generalize ix ts r = i at *
 have htl := hts.len
 refine Ctr.intro ⟨Tryz.f76, _, Tryz.call76, Tryz.func76, fold_body (by rfl) (by kernel_rfl), (by simp [Tryz.ntmps76]), (by simp), (by kernel_rfl), ?_⟩
 refine wks ?_
 refine wk0 ?_
 refine callI (hx) ?_
 refine wk2 @not_true_eq_false @decide_false ?_
 simp [memOut, lget, VC, packOut, packKeys, cellsOf, cellKeys, disjB, inL, AV.isAgg, cellOut, ns_len, ns_take, List.take_of_length_le, cleanL, cleanCell]
end Go.Proofs.YteipiejlljnclaaGreatDoor
end
section
namespace Go.Proofs.YteipiejlljnclaaGreatDoor
open Go Go.AL
attribute [local irreducible] run opK opD callK
attribute [local simp] keep keepEnv keepRows keepAV keepPl keepBody keepElems keepElem keepCells lget inL normG
theorem at_two (x y : AV) : at_ [x, y] ((1 : Int).toNat * 1) = y := rfl
theorem set_two (x y z : AV) : [x, y].set ((1 : Int).toNat * 1) z = [x, z] := rfl
attribute [local go_sem] at_two set_two not_true_eq_false not_false_eq_true decide_false
@[go_sem] abbrev ab2 (i j : Nat) : AV := .agg [iv .i64 i, iv .i64 j]
@[go_sem] abbrev mm2 (E : List (AV × AV)) : PA := .mp (.map (.arr 2 .i64) E)
end Go.Proofs.YteipiejlljnclaaGreatDoor
end
section
namespace Go.Proofs.YteipiejlljnclaaGreatDoor
open Go Go.AL
attribute [local irreducible] run opK opD callK
attribute [local simp] keep keepEnv keepRows keepAV keepPl keepBody keepElems keepElem keepCells lget inL normG
attribute [local go_sem] not_true_eq_false not_false_eq_true decide_false
@[go_sem] abbrev mm1 (E : List (AV × AV)) : PA := .mp (.map (.int .i64) E)
@[go_sem] abbrev rcl (K Q : List Int) : AV := .cl 81 [.dp 1 [.sl 1 (ints K)] 0 0, .dp 1 [.sl 1 (ints Q)] 0 0]
theorem c_mhit (T : List Nd) (E : List (AV × AV)) (K Q : List Int) (ia r : Nat) (hT : T.length < 100) (hmg : mget (iv .i64 ia) E = some (iv .i64 r)) :
  CT 207 [tp T, .data (iv .i64 ia), .data (rcl K Q), mm1 E] { val := iv .i64 r, args := [tp T, .data (iv .i64 ia), .data (rcl K Q), mm1 E] } := by
 refine Ctr.intro ⟨Tryz.f207, _, Tryz.call207, Tryz.func207, fold_body (by rfl) (by kernel_rfl), (by simp [Tryz.ntmps207]), (by simp), (by kernel_rfl), ?_⟩
 refine wks ?_
 refine wk1 @hmg ?_
 simp [memOut, lget, VC, packOut, packKeys, cellsOf, cellKeys, disjB, inL, AV.isAgg, cellOut, ns_len, ns_take, List.take_of_length_le]
theorem c_mlf (T T2 : List Nd) (E E2 : List (AV × AV)) (K Q : List Int) (ia r : Nat) (x z : Int) (hT : T.length < 100) (hT2 : T2.length < 101) (hia : ia < T.length) (hga : gn T ia = ⟨-1, x, []⟩) (hmg : mget (iv .i64 ia) E = none)
  (hca : CT 81 [.data (iv .i64 x), .data (.dp 1 [.sl 1 (ints K)] 0 0), .data (.dp 1 [.sl 1 (ints Q)] 0 0)] { val := iv .i64 z, args := [.data (iv .i64 x), .data (.dp 1 [.sl 1 (ints K)] 0 0), .data (.dp 1 [.sl 1 (ints Q)] 0 0)] })
  (hcl : CT 64 [tp T, .data (iv .i64 z)] { val := iv .i64 r, args := [tp T2, .data (iv .i64 z)] }) (hms : mset (iv .i64 ia) (iv .i64 r) E = E2) :
  CT 207 [tp T, .data (iv .i64 ia), .data (rcl K Q), mm1 E] { val := iv .i64 r, args := [tp T2, .data (iv .i64 ia), .data (rcl K Q), mm1 E2] } := by
 refine Ctr.intro ⟨Tryz.f207, _, Tryz.call207, Tryz.func207, fold_body (by rfl) (by kernel_rfl), (by simp [Tryz.ntmps207]), (by simp), (by kernel_rfl), ?_⟩
 refine wks ?_
 refine wk2 @hmg @hga ?_
 refine callI (hca) ?_
 refine wk0 ?_
 refine callI (hcl) ?_
 refine wk1 @hms ?_
 simp [memOut, lget, VC, packOut, packKeys, cellsOf, cellKeys, disjB, inL, AV.isAgg, cellOut, ns_len, ns_take, List.take_of_length_le]
theorem c_mbr (T : Nat → List Nd) (T2 : List Nd) (E : Nat → List (AV × AV)) (E2 : List (AV × AV)) (A : Nd) (K Q : List Int) (ia s n r : Nat) (rk : Nat → Nat) (kr : Nat → List Int)
  (hT : ∀ k, (T k).length < 100) (hn : n < 1000) (hia : ia < (T 0).length) (hga : gn (T 0) ia = A) (hmg : mget (iv .i64 ia) (E 0) = none) (h1 : A.site = s) (hka : A.kids.length = n)
  (hst : ∀ k, k < n → CT 207 [tp (T k), .data (iv .i64 (gi A.kids k)), .data (rcl K Q), mm1 (E k)] { val := iv .i64 (rk k), args := [tp (T (k + 1)), .data (iv .i64 (gi A.kids k)), .data (rcl K Q), mm1 (E (k + 1))] })
  (hk0 : kr 0 = List.replicate n 0) (hkl : ∀ k, k ≤ n → (kr k).length = n) (hks : ∀ k, k < n → (kr k).set k (rk k : Int) = kr (k + 1))
  (hbr : CT 65 [tp (T n), .data (iv .i64 s), idat (kr n)] { val := iv .i64 r, args := [tp T2, .data (iv .i64 s), idat (kr n)] })
  (hT2 : T2.length < 101) (hms : mset (iv .i64 ia) (iv .i64 r) (E n) = E2) :
  CT 207 [tp (T 0), .data (iv .i64 ia), .data (rcl K Q), mm1 (E 0)] { val := iv .i64 r, args := [tp T2, .data (iv .i64 ia), .data (rcl K Q), mm1 E2] } := by
 have hT0 := hT 0
 obtain ⟨As, Av, Ak⟩ := A
 simp only at h1 hka hst
 subst h1
 refine Ctr.intro ⟨Tryz.f207, _, Tryz.call207, Tryz.func207, fold_body (by rfl) (by kernel_rfl), (by simp [Tryz.ntmps207]), (by simp), (by kernel_rfl), ?_⟩
 refine wks ?_
 refine wk3 @hmg @hga @hka ?_
 rw [← hk0]
 refine run_loop [0, 1, 2, 3, 11, 13, 45, 46, 47] [0, 3, 11, 43, 10000000, 20000000] (α := {k : Nat // k ≤ n})
  (fun k => ⟨[(0, .hp ⟨0, 0⟩ 0 0), (1, iv .i64 ia), (2, rcl K Q), (3, .hm ⟨3, 0⟩), (11, .hp ⟨11, 1⟩ 0 0), (13, .hs ⟨43, 1⟩ 0 n), (45, .sl 1 (ints Ak)), (46, iv .i64 n), (47, iv .i64 k.1)],
   [(0, ⟨0, true, true, .cells 2 [.agg [.hs ⟨10000000, gg k.1⟩ 0 (T k.1).length, .hm ⟨20000000, gg k.1⟩]]⟩), (3, ⟨0, true, false, .map (.int .i64) (E k.1)⟩), (11, ⟨1, true, true, .cells 3 [.agg [iv .i64 s, iv .i64 Av, .sl 1 (ints Ak)]]⟩), (43, ⟨1, true, false, .cells 1 (ints (kr k.1))⟩), (10000000, ⟨gg k.1, true, false, .cells 3 (ns (T k.1))⟩), (20000000, ⟨gg k.1, true, false, .map .str (entL (T k.1))⟩)]⟩)
  (fun k => n - k.1) ⟨0, Nat.zero_le _⟩ (by simp only [gg]; exact (by first | rfl | simp)) ?_
 rintro ⟨k, hk⟩
 simp only
 have hTk := hT k
 have hTk2 := hT (k + 1)
 have hklk := hkl k hk
 have hstk := hst k
 have hksk := hks k
 generalize gg k = g at *
 clear hst hks hkl hT hk0 hmg hga hia
 refine wk1 @hka ?_
 refine condK.dec (fun hlt => ?_) (fun hlt => ?_)
 ·have hk2 : k < n := by omega
  have hc := hstk hk2
  have e3 := hksk hk2
  clear hstk hksk hbr hms
  refine wk1 @hka ?_
  refine callI (hc) ?_
  refine wk2 @hklk @e3 ?_
  exact ⟨⟨k + 1, by omega⟩, by simp only [gg]; exact (by first | rfl | simp), by simp only; omega⟩
 ·have hkn : k = n := by omega
  subst hkn
  clear hstk hksk
  have hkt : (kr k).take k = kr k := List.take_of_length_le (by omega)
  refine wk2 @hklk @hkt ?_
  refine callI (hbr) ?_
  refine wk1 @hms ?_
  simp [memOut, lget, VC, packOut, packKeys, cellsOf, cellKeys, disjB, inL, AV.isAgg, cellOut, ns_len, ns_take, List.take_of_length_le]
theorem c_Map (T T2 : List Nd) (E2 : List (AV × AV)) (K Q : List Int) (ia r : Nat) (hT : T.length < 100) (hT2 : T2.length < 101)
  (hj : CT 207 [tp T, .data (iv .i64 ia), .data (rcl K Q), mm1 []] { val := iv .i64 r, args := [tp T2, .data (iv .i64 ia), .data (rcl K Q), mm1 E2] }) :
  CT 154 [tp T, .data (iv .i64 ia), .data (rcl K Q)] { val := iv .i64 r, args := [tp T2, .data (iv .i64 ia), .data (rcl K Q)] } := by
 refine Ctr.intro ⟨Tryz.f154, _, Tryz.call154, Tryz.func154, fold_body (by rfl) (by kernel_rfl), (by simp [Tryz.ntmps154]), (by simp), (by kernel_rfl), ?_⟩
 refine wks ?_
 refine wk0 ?_
 refine callI (hj) ?_
 refine wk0 ?_
 simp [memOut, lget, VC, packOut, packKeys, cellsOf, cellKeys, disjB, inL, AV.isAgg, cellOut, ns_len, ns_take, List.take_of_length_le]
theorem c_begin1 (w : Nat → Nat) (a : Tr) (ha : Ok w a) (hsa : a.sz < 100) (hsma : ∀ x ∈ enum a [], SmT x) :
  CT 75 [.data (.sl 1 [.agg [.sl 3 (ns (nds (enum a [])))]])] { val := .tup [.hp ⟨0, 0⟩ 0 0, .sl 1 (ints [(ix (enum a []) a : Int)]), iv .i64 0], new := [tpt (enum a [])], args := [.data (.sl 1 [.agg [.sl 3 (ns (nds (enum a [])))]])] } := by
 have hva := c_Validate w a ha hsa hsma
 obtain ⟨hTa, hRa⟩ := enum_tab ha (by omega)
 have hEa := ha.enum (l := []) (fun _ h => by cases h)
 have hsha := c_Shapes w (enum a []) [] hTa hEa
 have hel := enum_len a []
 simp only [List.length_nil, Nat.zero_add] at hel
 have hra := c_Root [] (enum a []) a ⟨Clo.nil, List.nodup_nil, by simp, by simp⟩ hTa hRa (by simp) hsma (by rw [List.length_nil]; omega) enum_get
 rw [insL_self hTa.nod] at hra
 have hsE : shE w [] = [] := rfl
 rw [hsE] at hsha
 generalize ix (enum a []) a = ia at *
 generalize enum a [] = A at *
 obtain ⟨D, hD⟩ : ∃ D : List AV, D = [.agg [.sl 3 (ns (nds A))]] := ⟨_, rfl⟩
 have hDl : D.length = 1 := by rw [hD]; rfl
 have hD0 : at_ D 0 = .agg [.sl 3 (ns (nds A))] := by rw [hD]; rfl
 rw [← hD]
 clear hD hEa hTa hRa hsma ha
 refine Ctr.intro ⟨Tryz.f75, _, Tryz.call75, Tryz.func75, fold_body (by rfl) (by kernel_rfl), (by simp [Tryz.ntmps75]), (by simp), (by kernel_rfl), ?_⟩
 refine wks ?_
 refine wk1 @hDl ?_
 refine run_loop [0, 13, 14, 15] [] (α := {i : Nat // i ≤ 1}) (fun i => ⟨[(0, .sl 1 D), (13, .sl 1 D), (14, iv .i64 1), (15, iv .i64 i.1)], []⟩) (fun i => 1 - i.1) ⟨0, Nat.zero_le _⟩ (by first | rfl | simp) ?_
 rintro ⟨i, hi⟩
 refine wk1 @hDl ?_
 refine condK.dec (fun h => ?_) (fun h => ?_)
 ·obtain rfl : i = 0 := by omega
  refine wk2 @hDl @hD0 ?_
  refine callI (hva) ?_
  refine wk0 ?_
  exact ⟨⟨1, by omega⟩, (by first | rfl | simp), by simp only; omega⟩
 ·clear hva
  refine wk1 @hDl ?_
  refine callI (c_TNew) ?_
  refine wk1 @hDl ?_
  refine run_loop [0, 8, 9, 10, 27, 28, 29] [10, 25, 26, 10000025, 20000025] (α := {i : Nat // i ≤ 1})
   (fun i => match i.1 with
    | 0 => ⟨[(0, .sl 1 D), (8, .hp ⟨25, 1⟩ 0 0), (9, .hm ⟨26, 1⟩), (10, .hs ⟨10, 1⟩ 0 0), (27, .sl 1 D), (28, iv .i64 1), (29, iv .i64 0)],
      [(10, ⟨1, true, false, .cells 1 []⟩), (25, ⟨1, true, true, .cells 2 [.agg [.hs ⟨10000025, 1⟩ 0 0, .hm ⟨20000025, 1⟩]]⟩), (26, ⟨1, true, false, .map (.int .i64) []⟩), (10000025, ⟨1, true, false, .cells 3 (ns [])⟩), (20000025, ⟨1, true, false, .map .str (entL [])⟩)]⟩
    | _ + 1 => ⟨[(0, .sl 1 D), (8, .hp ⟨25, 1⟩ 0 0), (9, .hm ⟨26, 1⟩), (10, .hs ⟨10, 1⟩ 0 1), (27, .sl 1 D), (28, iv .i64 1), (29, iv .i64 1)],
      [(10, ⟨1, true, false, .cells 1 [iv .i64 (ia : Nat)]⟩), (25, ⟨1, true, true, .cells 2 [.agg [.hs ⟨10000025, 1⟩ 0 A.length, .hm ⟨20000025, 1⟩]]⟩), (26, ⟨1, true, false, .map (.int .i64) (shE w (shS [] A))⟩), (10000025, ⟨1, true, false, .cells 3 (ns (nds A))⟩), (20000025, ⟨1, true, false, .map .str (entL (nds A))⟩)]⟩)
   (fun i => 1 - i.1) ⟨0, Nat.zero_le _⟩ (by first | rfl | simp) ?_
  rintro ⟨i, hi⟩
  obtain rfl | rfl : i = 0 ∨ i = 1 := by omega
  ·simp only
   refine wk2 @hDl @hD0 ?_
   refine callI (hsha) ?_
   refine wk0 ?_
   refine callI (hra) ?_
   refine wk0 ?_
   exact ⟨⟨1, by omega⟩, (by first | rfl | simp), by simp only; omega⟩
  ·simp only
   refine wk1 @hDl ?_
   simp [memOut, lget, VC, packOut, packKeys, cellsOf, cellKeys, disjB, inL, AV.isAgg, cellOut, ns_len, ns_take, List.take_of_length_le]
   rfl
theorem c_oneD (A T T2 N : List Nd) (K Q : List Int) (ia r : Nat) (hT : T.length < 100) (hT2 : T2.length < 101)
  (hb : CT 75 [.data (.sl 1 [.agg [.sl 3 (ns A)]])] { val := .tup [.hp ⟨0, 0⟩ 0 0, .sl 1 (ints [(ia : Int)]), iv .i64 0], new := [tp T], args := [.data (.sl 1 [.agg [.sl 3 (ns A)]])] })
  (hj : CT 154 [tp T, .data (iv .i64 ia), .data (rcl K Q)] { val := iv .i64 r, args := [tp T2, .data (iv .i64 ia), .data (rcl K Q)] })
  (he : CT 76 [tp T2, .data (iv .i64 r)] { val := .tup [.agg [.sl 3 (ns N)], iv .i64 0], args := [tp T2, .data (iv .i64 r)] }) :
  CT 80 [.data (.agg [.sl 3 (ns A)]), .data (rcl K Q)] { val := .tup [.agg [.sl 3 (ns N)], iv .i64 0], args := [.data (.agg [.sl 3 (ns A)]), .data (rcl K Q)] } := by
 have hg0 : gi [(ia : Int)] 0 = ia := rfl
 refine Ctr.intro ⟨Tryz.f80, _, Tryz.call80, Tryz.func80, fold_body (by rfl) (by kernel_rfl), (by simp [Tryz.ntmps80]), (by simp), (by kernel_rfl), ?_⟩
 refine wks ?_
 refine wk0 ?_
 refine callI (hb) ?_
 refine wk1 @hg0 ?_
 refine callI (hj) ?_
 refine wk0 ?_
 refine callI (he) ?_
 refine wk0 ?_
 simp [memOut, lget, VC, packOut, packKeys, cellsOf, cellKeys, disjB, inL, AV.isAgg, cellOut, cleanL, cleanCell]
attribute [local go_sem] frzL frzBox AL.plainAll AL.plainCell
theorem c_Replace (A N : List Nd) (K Q : List Int) (hK : K.length = Q.length) (hQ : Q.length < 1000) (hb : ∀ x ∈ Q, -1073741824 ≤ x ∧ x ≤ 1073741824)
  (he : CT 80 [.data (.agg [.sl 3 (ns A)]), .data (rcl K Q)] { val := .tup [.agg [.sl 3 (ns N)], iv .i64 0], args := [.data (.agg [.sl 3 (ns A)]), .data (rcl K Q)] }) :
  CT 35 [.data (.agg [.sl 3 (ns A)]), idat K, idat Q] { val := .tup [.agg [.sl 3 (ns N)], iv .i64 0], args := [.data (.agg [.sl 3 (ns A)]), idat K, idat Q] } := by
 refine Ctr.intro ⟨Tryz.f35, _, Tryz.call35, Tryz.func35, fold_body (by rfl) (by kernel_rfl), (by simp [Tryz.ntmps35]), (by simp), (by kernel_rfl), ?_⟩
 refine wks ?_
 refine wk1 @hK ?_
 refine run_loop [3, 4, 5, 6, 16, 17, 18] [3, 4, 5, 6, 10000006] (α := {i : Nat // i ≤ Q.length})
  (fun i => ⟨[(3, .hp ⟨3, 1⟩ 0 0), (4, .hp ⟨4, 1⟩ 0 0), (5, .hp ⟨5, 1⟩ 0 0), (6, .hp ⟨6, 1⟩ 0 0), (16, .sl 1 (ints Q)), (17, iv .i64 Q.length), (18, iv .i64 i.1)],
   [(3, ⟨1, true, true, .cells 1 [.agg [.sl 3 (ns A)]]⟩), (4, ⟨1, true, true, .cells 1 [.sl 1 (ints K)]⟩), (5, ⟨1, true, true, .cells 1 [.sl 1 (ints Q)]⟩), (6, ⟨1, true, true, .cells 1 [.agg [.hs ⟨10000006, 1⟩ 0 0]]⟩), (10000006, ⟨1, true, false, .cells 3 []⟩)]⟩)
  (fun i => Q.length - i.1) ⟨0, Nat.zero_le _⟩ (by first | rfl | simp) ?_
 rintro ⟨i, hi⟩
 refine wk0 ?_
 refine condK.dec (fun h => ?_) (fun h => ?_)
 ·have hq := hb (gi Q i) (gi_mem (by omega))
  have d1 : ¬ gi Q i < -1073741824 := by omega
  have d2 : ¬ gi Q i > 1073741824 := by omega
  refine wk2 (decide_eq_false d1) (decide_eq_false d2) ?_
  exact ⟨⟨i + 1, by omega⟩, (by first | rfl | simp), by simp only; omega⟩
 ·refine wk0 ?_
  refine callI (he) ?_
  refine wk0 ?_
  simp [memOut, lget, VC, packOut, packKeys, cellsOf, cellKeys, disjB, inL, AV.isAgg, cellOut, cleanL, cleanCell]
end Go.Proofs.YteipiejlljnclaaGreatDoor
end
