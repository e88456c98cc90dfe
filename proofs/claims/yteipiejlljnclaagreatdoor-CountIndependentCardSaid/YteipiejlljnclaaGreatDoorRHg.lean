/- The program's operators (combine): the limit, sums and products, the functions that hold it. Conditions stand in each. -/
import Derived.Test.YteipiejlljnclaaGreatDoorRCa2
import Derived.Test.YteipiejlljnclaaGreatDoorRHe
set_option linter.unusedVariables false
set_option linter.unusedSimpArgs false
set_option maxRecDepth 10000
set_option maxHeartbeats 16000000
section
namespace Go.Proofs.YteipiejlljnclaaGreatDoor
open Go Go.AL
attribute [local irreducible] run opK opD callK
attribute [local go_sem] frzL frzBox AL.plainAll AL.plainCell
theorem c_lim (n : Int) : CT 141 [.data (iv .i64 n)] { val := iv .i64 (min (max n (-1073741824)) 1073741824), args := [.data (iv .i64 n)] } := by
 refine Ctr.intro ⟨Tryz.f141, _, Tryz.call141, Tryz.func141, fold_body (by rfl) (by kernel_rfl), (by simp [Tryz.ntmps141]), (by simp), (by kernel_rfl), ?_⟩
 refine wks ?_
 refine wk0 ?_
 trivial
@[go_sem] abbrev bxl : AV := .dp 1 [.sc (.func (.func 141) #[] #[])] 0 0
theorem mul_bd {x y : Int} (h1 : -1000 < x) (h2 : x < 1000) (h3 : -1000 < y) (h4 : y < 1000) : -1000000 < x * y ∧ x * y < 1000000 := by
 have g1 : x.natAbs ≤ 999 := by omega
 have g2 : y.natAbs ≤ 999 := by omega
 have g3 : (x * y).natAbs ≤ 999 * 999 := by rw [Int.natAbs_mul]; exact Nat.mul_le_mul g1 g2
 omega
theorem c_fmul (x y : Int) (h1 : -1000 < x) (h2 : x < 1000) (h3 : -1000 < y) (h4 : y < 1000) : CT 150 [.data (iv .i64 x), .data (iv .i64 y), .data bxl] { val := iv .i64 (min (max (x * y) (-1073741824)) 1073741824), args := [.data (iv .i64 x), .data (iv .i64 y), .data bxl] } := by
 have hm := mul_bd h1 h2 h3 h4
 refine Ctr.intro ⟨Tryz.f150, _, Tryz.call150, Tryz.func150, fold_body (by rfl) (by kernel_rfl), (by simp [Tryz.ntmps150]), (by simp), (by kernel_rfl), ?_⟩
 refine wks ?_
 refine wk0 ?_
 refine callI (c_lim (x * y)) ?_
 refine wk0 ?_
 trivial
theorem c_Op12 : CT 74 [.data (iv .i64 12)] { val := .tup [.cl 150 [bxl], .sc (.bool true)], args := [.data (iv .i64 12)] } := by
 refine Ctr.intro ⟨Tryz.f74, _, Tryz.call74, Tryz.func74, fold_body (by rfl) (by kernel_rfl), (by simp [Tryz.ntmps74]), (by simp), (by kernel_rfl), ?_⟩
 refine wks ?_
 refine wk0 ?_
 trivial
end Go.Proofs.YteipiejlljnclaaGreatDoor
end
section
namespace Go.Proofs.YteipiejlljnclaaGreatDoor
open Go Go.AL
attribute [local irreducible] run opK opD callK
attribute [local simp] keep keepEnv keepRows keepAV keepPl keepBody keepElems keepElem keepCells lget inL normG
theorem c_TBr0 (l : List Nd) (s : Int) (k : List Int) (hk0 : 0 < k.length) (hkl : k.length < 1000000) (hd : ∀ j, j < k.length → gi k j = gi k 0) :
  CT 65 [tp l, .data (iv .i64 s), idat k] { val := iv .i64 (gi k 0), args := [tp l, .data (iv .i64 s), idat k] } := by
 refine Ctr.intro ⟨Tryz.f65, _, Tryz.call65, Tryz.func65, fold_body (by rfl) (by kernel_rfl), (by simp [Tryz.ntmps65]), (by simp), (by kernel_rfl), ?_⟩
 refine wks ?_
 refine wk0 ?_
 refine run_loop [0, 1, 2, 9, 10, 11] [0, 10000000, 20000000] (α := {i : Nat // i ≤ k.length})
  (fun i => ⟨[(0, .hp ⟨0, 0⟩ 0 0), (1, iv .i64 s), (2, .sl 1 (ints k)), (9, .sl 1 (ints k)), (10, iv .i64 k.length), (11, iv .i64 i.1)],
   [(0, ⟨0, true, true, .cells 2 [.agg [.hs ⟨10000000, 0⟩ 0 l.length, .hm ⟨20000000, 0⟩]]⟩), (10000000, ⟨0, true, false, .cells 3 (ns l)⟩), (20000000, ⟨0, true, false, .map .str (entL l)⟩)]⟩)
  (fun i => k.length - i.1) ⟨0, Nat.zero_le _⟩ (by first | rfl | simp) ?_
 rintro ⟨i, hi⟩
 refine wk0 ?_
 refine condK.dec (fun h => ?_) (fun h => ?_)
 ·refine wk0 ?_
  refine condK.dec (fun h2 => absurd (hd i (by omega)) h2) (fun h2 => ?_)
  refine wk0 ?_
  exact ⟨⟨i + 1, by omega⟩, (by first | rfl | simp), by simp only; omega⟩
 ·refine wk0 ?_
  simp [memOut, lget, VC, packOut, packKeys, cellsOf, cellKeys, disjB, inL, AV.isAgg, cellOut, ns_len, ns_take, List.take_of_length_le]
noncomputable def brT (U : List Tr) (s : Nat) (ks : List Tr) : List Tr := open Classical in if same ks then U else insT U (.br s ks)
theorem brT_pre (U : List Tr) (s : Nat) (ks : List Tr) : U <+: brT U s ks := by
 unfold brT
 split
 ·exact List.prefix_refl U
 ·exact ins_pre _ _
theorem brT_mem {U : List Tr} {s : Nat} {ks : List Tr} (hk : ∀ k ∈ ks, k ∈ U) (h0 : ks ≠ []) : mkbr s ks ∈ brT U s ks := by
 unfold brT mkbr
 split
 ·cases ks with
  | nil => exact absurd rfl h0
  | cons a ks => exact hk a (.head _)
 ·exact mem_ins _ _
theorem c_TBr (U : List Tr) (s : Nat) (ks : List Tr) (hc : Clo U) (hsm : ∀ t ∈ U, SmT t) (hU : U.length < 100) (hk : ∀ k ∈ ks, k ∈ U) (h0 : ks ≠ []) (hkl : ks.length < 1000) (hs : s < 100) :
  CT 65 [tpt U, .data (iv .i64 s), idat (ks.map fun k => (ix U k : Int))] { val := iv .i64 (ix (brT U s ks) (mkbr s ks) : Nat), args := [tpt (brT U s ks), .data (iv .i64 s), idat (ks.map fun k => (ix U k : Int))] } := by
 by_cases h : same ks
 ·have e1 : brT U s ks = U := by unfold brT; rw [if_pos h]
  have e2 : mkbr s ks = ks.headD (.lf 0) := by unfold mkbr; rw [if_pos h]
  rw [e1, e2]
  cases ks with
  | nil => exact absurd rfl h0
  | cons a ks =>
   have hall : ∀ j, j < ((a :: ks).map fun k => (ix U k : Int)).length → gi ((a :: ks).map fun k => (ix U k : Int)) j = (ix U a : Int) := by
    intro j hj
    rw [List.length_map] at hj
    have e : gi ((a :: ks).map fun k => (ix U k : Int)) j = (ix U (a :: ks)[j] : Int) := by
     unfold gi
     rw [List.getD_eq_getElem?_getD, List.getElem?_map, List.getElem?_eq_getElem hj]
     rfl
    rw [e]
    cases j with
    | zero => rfl
    | succ j => rw [List.getElem_cons_succ, h _ (List.getElem_mem _)]
   have h00 := hall 0 (by simp)
   have := c_TBr0 (nds U) s ((a :: ks).map fun k => (ix U k : Int)) (by simp) (by rw [List.length_map]; omega) (fun j hj => by rw [hall j hj, h00])
   rw [h00] at this
   exact this
 ·have e1 : brT U s ks = insT U (.br s ks) := by unfold brT; rw [if_neg h]
  have e2 : mkbr s ks = .br s ks := by unfold mkbr; rw [if_neg h]
  rw [e1, e2]
  obtain ⟨ha1, ha2⟩ := addL_nd (t := .br s ks) hc hk
  have hnd2 : nd U (.br s ks) = ⟨s, 0, ks.map fun k => (ix U k : Int)⟩ := rfl
  rw [hnd2] at ha1 ha2
  have hkm : ∀ x ∈ (ks.map fun k => (ix U k : Int)), sml x := fun x hx => by
   obtain ⟨k, hkk, rfl⟩ := List.mem_map.mp hx
   have := ix_lt (hk k hkk)
   exact ⟨by omega, by omega⟩
  have := c_TBranch (nds U) s (ks.map fun k => (ix U k : Int)) (sml_nds hc hsm hU) ⟨by omega, by omega⟩ hkm (by rw [nds_length]; omega) (by rw [List.length_map]; omega) (not_same hk h)
  rw [ha1, ha2] at this
  exact this
noncomputable def D2 (A B : List Tr) : List AV := [.agg [.sl 3 (ns (nds A))], .agg [.sl 3 (ns (nds B))]]
theorem c_begin2 (w : Nat → Nat) (a b : Tr) (ha : Ok w a) (hb : Ok w b) (hsa : a.sz < 100) (hsb : b.sz < 100) (hsma : ∀ x ∈ enum a [], SmT x) (hsmb : ∀ x ∈ enum b [], SmT x) (hl : (enum a []).length + (enum b []).length < 100) :
  CT 75 [.data (.sl 1 (D2 (enum a []) (enum b [])))] { val := .tup [.hp ⟨0, 0⟩ 0 0, .sl 1 (ints [(ix (insL (enum a []) (enum b [])) a : Int), (ix (insL (enum a []) (enum b [])) b : Int)]), iv .i64 0], new := [tpt (insL (enum a []) (enum b []))], args := [.data (.sl 1 (D2 (enum a []) (enum b [])))] } := by
 have hva := c_Validate w a ha hsa hsma
 have hvb := c_Validate w b hb hsb hsmb
 obtain ⟨hTa, hRa⟩ := enum_tab ha (by omega)
 obtain ⟨hTb, hRb⟩ := enum_tab hb (by omega)
 have hEa := ha.enum (l := []) (fun _ h => by cases h)
 have hEb := hb.enum (l := []) (fun _ h => by cases h)
 have hsha := c_Shapes w (enum a []) [] hTa hEa
 have hshb := c_Shapes w (enum b []) (shS [] (enum a [])) hTb hEb
 have hra := c_Root [] (enum a []) a ⟨Clo.nil, List.nodup_nil, by simp, by simp⟩ hTa hRa (by simp) hsma (by rw [List.length_nil]; omega) enum_get
 have hrb := c_Root (enum a []) (enum b []) b hTa hTb hRb hsma hsmb hl enum_get
 rw [insL_self hTa.nod] at hra
 have hix : ix (insL (enum a []) (enum b [])) a = ix (enum a []) a := ix_pre (insL_pre _ _) (mem_enum a [])
 rw [hix]
 generalize ix (enum a []) a = ia at *
 generalize ix (insL (enum a []) (enum b [])) b = ib at *
 generalize insL (enum a []) (enum b []) = U at *
 obtain ⟨D, hD⟩ : ∃ D, D = D2 (enum a []) (enum b []) := ⟨_, rfl⟩
 have hDl : D.length = 2 := by rw [hD]; rfl
 have hD0 : at_ D 0 = .agg [.sl 3 (ns (nds (enum a [])))] := by rw [hD]; rfl
 have hD1 : at_ D 1 = .agg [.sl 3 (ns (nds (enum b [])))] := by rw [hD]; rfl
 rw [← hD]
 have hsE : shE w [] = [] := rfl
 rw [hsE] at hsha
 generalize enum a [] = A at *
 generalize enum b [] = B at *
 clear hD hEa hEb hTa hTb hRa hRb hsma hsmb ha hb hix
 refine Ctr.intro ⟨Tryz.f75, _, Tryz.call75, Tryz.func75, fold_body (by rfl) (by kernel_rfl), (by simp [Tryz.ntmps75]), (by simp), (by kernel_rfl), ?_⟩
 refine wks ?_
 refine wk1 @hDl ?_
 refine run_loop [0, 13, 14, 15] [] (α := {i : Nat // i ≤ 2}) (fun i => ⟨[(0, .sl 1 D), (13, .sl 1 D), (14, iv .i64 2), (15, iv .i64 i.1)], []⟩) (fun i => 2 - i.1) ⟨0, Nat.zero_le _⟩ (by first | rfl | simp) ?_
 rintro ⟨i, hi⟩
 refine wk1 @hDl ?_
 refine condK.dec (fun h => ?_) (fun h => ?_)
 ·obtain rfl | rfl : i = 0 ∨ i = 1 := by omega
  ·refine wk2 @hDl @hD0 ?_
   refine callI (hva) ?_
   refine wk2 @not_true_eq_false @decide_false ?_
   exact ⟨⟨1, by omega⟩, (by first | rfl | simp), by simp only; omega⟩
  ·refine wk2 @hDl @hD1 ?_
   refine callI (hvb) ?_
   refine wk2 @not_true_eq_false @decide_false ?_
   exact ⟨⟨2, by omega⟩, (by first | rfl | simp), by simp only; omega⟩
 ·clear hva hvb
  refine wk1 @hDl ?_
  refine callI (c_TNew) ?_
  refine wk1 @hDl ?_
  refine run_loop [0, 8, 9, 10, 27, 28, 29] [10, 25, 26, 10000025, 20000025] (α := {i : Nat // i ≤ 2})
   (fun i => match i.1 with
    | 0 => ⟨[(0, .sl 1 D), (8, .hp ⟨25, 1⟩ 0 0), (9, .hm ⟨26, 1⟩), (10, .hs ⟨10, 1⟩ 0 0), (27, .sl 1 D), (28, iv .i64 2), (29, iv .i64 0)],
      [(10, ⟨1, true, false, .cells 1 []⟩), (25, ⟨1, true, true, .cells 2 [.agg [.hs ⟨10000025, 1⟩ 0 0, .hm ⟨20000025, 1⟩]]⟩), (26, ⟨1, true, false, .map (.int .i64) []⟩), (10000025, ⟨1, true, false, .cells 3 (ns [])⟩), (20000025, ⟨1, true, false, .map .str (entL [])⟩)]⟩
    | 1 => ⟨[(0, .sl 1 D), (8, .hp ⟨25, 1⟩ 0 0), (9, .hm ⟨26, 1⟩), (10, .hs ⟨10, 1⟩ 0 1), (27, .sl 1 D), (28, iv .i64 2), (29, iv .i64 1)],
      [(10, ⟨1, true, false, .cells 1 [iv .i64 (ia : Nat)]⟩), (25, ⟨1, true, true, .cells 2 [.agg [.hs ⟨10000025, 1⟩ 0 A.length, .hm ⟨20000025, 1⟩]]⟩), (26, ⟨1, true, false, .map (.int .i64) (shE w (shS [] A))⟩), (10000025, ⟨1, true, false, .cells 3 (ns (nds A))⟩), (20000025, ⟨1, true, false, .map .str (entL (nds A))⟩)]⟩
    | _ + 2 => ⟨[(0, .sl 1 D), (8, .hp ⟨25, 1⟩ 0 0), (9, .hm ⟨26, 1⟩), (10, .hs ⟨10, 1⟩ 0 2), (27, .sl 1 D), (28, iv .i64 2), (29, iv .i64 2)],
      [(10, ⟨1, true, false, .cells 1 [iv .i64 (ia : Nat), iv .i64 (ib : Nat)]⟩), (25, ⟨1, true, true, .cells 2 [.agg [.hs ⟨10000025, 1⟩ 0 U.length, .hm ⟨20000025, 1⟩]]⟩), (26, ⟨1, true, false, .map (.int .i64) (shE w (shS (shS [] A) B))⟩), (10000025, ⟨1, true, false, .cells 3 (ns (nds U))⟩), (20000025, ⟨1, true, false, .map .str (entL (nds U))⟩)]⟩)
   (fun i => 2 - i.1) ⟨0, Nat.zero_le _⟩ (by first | rfl | simp) ?_
  rintro ⟨i, hi⟩
  obtain rfl | rfl | rfl : i = 0 ∨ i = 1 ∨ i = 2 := by omega
  ·simp only
   refine wk2 @hDl @hD0 ?_
   refine callI (hsha) ?_
   refine wk2 @not_true_eq_false @decide_false ?_
   refine callI (hra) ?_
   refine wk0 ?_
   exact ⟨⟨1, by omega⟩, (by first | rfl | simp), by simp only; omega⟩
  ·simp only
   refine wk3 @hDl (show (1 : Int).toNat = 1 from rfl) @hD1 ?_
   refine callI (hshb) ?_
   refine wk2 @not_true_eq_false @decide_false ?_
   refine callI (hrb) ?_
   refine wk0 ?_
   exact ⟨⟨2, by omega⟩, (by first | rfl | simp), by simp only; omega⟩
  ·simp only
   refine wk1 @hDl ?_
   simp [memOut, lget, VC, packOut, packKeys, cellsOf, cellKeys, disjB, inL, AV.isAgg, cellOut, ns_len, ns_take, List.take_of_length_le]
   rfl
theorem c_end (ts : List Tr) (r : Tr) (hts : Tab ts) (hr : r ∈ ts) (hE : (enum r []).length < 20000) (hz : r.sz < 274877906944) : CT 76 [tpt ts, .data (iv .i64 (ix ts r : Nat))]
  {val := .tup [.agg [.sl 3 (ns (nds (enum r [])))], iv .i64 0], args := [tpt ts, .data (iv .i64 (ix ts r : Nat))] } := by
 have hx := c_Export ts r hts hr hE hz
 generalize enum r [] = E at *
 generalize ix ts r = i at *
 have htl := hts.len
 refine Ctr.intro ⟨Tryz.f76, _, Tryz.call76, Tryz.func76, fold_body (by rfl) (by kernel_rfl), (by simp [Tryz.ntmps76]), (by simp), (by kernel_rfl), ?_⟩
 refine wks ?_
 refine wk0 ?_
 refine callI (hx) ?_
 refine wk2 @not_true_eq_false @decide_false ?_
 simp [memOut, lget, VC, packOut, packKeys, cellsOf, cellKeys, disjB, inL, AV.isAgg, cellOut, ns_len, ns_take, List.take_of_length_le, cleanL, cleanCell]
end Go.Proofs.YteipiejlljnclaaGreatDoor
end
section
namespace Go.Proofs.YteipiejlljnclaaGreatDoor
open Go Go.AL
attribute [local irreducible] run opK opD callK
attribute [local simp] keep keepEnv keepRows keepAV keepPl keepBody keepElems keepElem keepCells lget inL normG
theorem at_two (x y : AV) : at_ [x, y] ((1 : Int).toNat * 1) = y := rfl
theorem set_two (x y z : AV) : [x, y].set ((1 : Int).toNat * 1) z = [x, z] := rfl
attribute [local go_sem] at_two set_two not_true_eq_false not_false_eq_true decide_false
@[go_sem] abbrev ab2 (i j : Nat) : AV := .agg [iv .i64 i, iv .i64 j]
@[go_sem] abbrev mm2 (E : List (AV × AV)) : PA := .mp (.map (.arr 2 .i64) E)
theorem c_jhit (T : List Nd) (E : List (AV × AV)) (ia ib r fid : Nat) (cs : List AV) (hT : T.length < 100) (hmg : mget (ab2 ia ib) E = some (iv .i64 r)) :
  CT 151 [tp T, .data (ab2 ia ib), .data (.cl fid cs), mm2 E] { val := iv .i64 r, args := [tp T, .data (ab2 ia ib), .data (.cl fid cs), mm2 E] } := by
 refine Ctr.intro ⟨Tryz.f151, _, Tryz.call151, Tryz.func151, fold_body (by rfl) (by kernel_rfl), (by simp [Tryz.ntmps151]), (by simp), (by kernel_rfl), ?_⟩
 refine wks ?_
 refine wk1 @hmg ?_
 simp [memOut, lget, VC, packOut, packKeys, cellsOf, cellKeys, disjB, inL, AV.isAgg, cellOut, ns_len, ns_take, List.take_of_length_le]
theorem c_jlf150 (T T2 : List Nd) (E E2 : List (AV × AV)) (ia ib r : Nat) (x y z : Int) (hT : T.length < 100) (hT2 : T2.length < 101) (hia : ia < T.length) (hib : ib < T.length) (hga : gn T ia = ⟨-1, x, []⟩) (hgb : gn T ib = ⟨-1, y, []⟩)
  (hmg : mget (ab2 ia ib) E = none) (hca : CT 150 [.data (iv .i64 x), .data (iv .i64 y), .data bxl] { val := iv .i64 z, args := [.data (iv .i64 x), .data (iv .i64 y), .data bxl] })
  (hcl : CT 64 [tp T, .data (iv .i64 z)] { val := iv .i64 r, args := [tp T2, .data (iv .i64 z)] }) (hms : mset (ab2 ia ib) (iv .i64 r) E = E2) :
  CT 151 [tp T, .data (ab2 ia ib), .data (.cl 150 [bxl]), mm2 E] { val := iv .i64 r, args := [tp T2, .data (ab2 ia ib), .data (.cl 150 [bxl]), mm2 E2] } := by
 refine Ctr.intro ⟨Tryz.f151, _, Tryz.call151, Tryz.func151, fold_body (by rfl) (by kernel_rfl), (by simp [Tryz.ntmps151]), (by simp), (by kernel_rfl), ?_⟩
 refine wks ?_
 refine wk1 @hmg ?_
 refine vcalm (by kernel_rfl) ?_
 refine wk3 @hmg @hga @hgb ?_
 refine callI (hca) ?_
 refine wk0 ?_
 refine callI (hcl) ?_
 refine wk1 @hms ?_
 simp [memOut, lget, VC, packOut, packKeys, cellsOf, cellKeys, disjB, inL, AV.isAgg, cellOut, ns_len, ns_take, List.take_of_length_le]
theorem cutter {K : List It} {Q : Post} {F : Env → Prop} {R : AL.Rows} {G : Prop} (h1 : (∀ e, F e → run SM CT Tryz.prog K .normal ⟨e, R⟩ Q) → G) (h2 : ∀ e, F e → run SM CT Tryz.prog K .normal ⟨e, R⟩ Q) : G := h1 h2
theorem c_jbr (T : Nat → List Nd) (T2 : List Nd) (E : Nat → List (AV × AV)) (E2 : List (AV × AV)) (A B : Nd) (ia ib s n r fid : Nat) (cs : List AV) (na nb rk : Nat → Nat) (kr : Nat → List Int)
  (hT : ∀ k, (T k).length < 100) (hn : n < 1000) (hia : ia < (T 0).length) (hib : ib < (T 0).length) (hga : gn (T 0) ia = A) (hgb : gn (T 0) ib = B) (hmg : mget (ab2 ia ib) (E 0) = none)
  (h1 : A.site = s ∨ B.site = s) (h2 : A.site < 0 ∨ s ≤ A.site) (h3 : B.site < 0 ∨ s ≤ B.site)
  (hka : A.site = s → A.kids.length = n ∧ ∀ k, k < n → gi A.kids k = (na k : Int)) (hkb : B.site = s → B.kids.length = n ∧ ∀ k, k < n → gi B.kids k = (nb k : Int))
  (hna : A.site ≠ s → ∀ k, k < n → na k = ia) (hnb : B.site ≠ s → ∀ k, k < n → nb k = ib)
  (hst : ∀ k, k < n → CT 151 [tp (T k), .data (ab2 (na k) (nb k)), .data (.cl fid cs), mm2 (E k)] { val := iv .i64 (rk k), args := [tp (T (k + 1)), .data (ab2 (na k) (nb k)), .data (.cl fid cs), mm2 (E (k + 1))] })
  (hk0 : kr 0 = List.replicate n 0) (hkl : ∀ k, k ≤ n → (kr k).length = n) (hks : ∀ k, k < n → (kr k).set k (rk k : Int) = kr (k + 1))
  (hbr : CT 65 [tp (T n), .data (iv .i64 s), idat (kr n)] { val := iv .i64 r, args := [tp T2, .data (iv .i64 s), idat (kr n)] })
  (hT2 : T2.length < 101) (hms : mset (ab2 ia ib) (iv .i64 r) (E n) = E2) :
  CT 151 [tp (T 0), .data (ab2 ia ib), .data (.cl fid cs), mm2 (E 0)] { val := iv .i64 r, args := [tp T2, .data (ab2 ia ib), .data (.cl fid cs), mm2 E2] } := by
 have hT0 := hT 0
 apply cutter (F := fun e => lget e 0 = some (.hp ⟨0, 0⟩ 0 0) ∧ lget e 2 = some (.cl fid cs) ∧ lget e 3 = some (.hm ⟨3, 0⟩) ∧ lget e 5 = some (.hp ⟨5, 1⟩ 0 0) ∧ lget e 11 = some (.hp ⟨11, 1⟩ 0 0) ∧ lget e 12 = some (.hp ⟨12, 1⟩ 0 0) ∧ lget e 14 = some (iv .i64 s) ∧ lget e 16 = some (.hs ⟨87, 1⟩ 0 n) ∧ lget e 89 = some (iv .i64 n) ∧ lget e 90 = some (iv .i64 0))
  (R := [(0, ⟨0, true, true, .cells 2 [.agg [.hs ⟨10000000, 0⟩ 0 (T 0).length, .hm ⟨20000000, 0⟩]]⟩), (3, ⟨0, true, false, .map (.arr 2 .i64) (E 0)⟩), (5, ⟨1, true, true, .cells 2 [ab2 ia ib]⟩), (11, ⟨1, true, true, .cells 3 [.agg [iv .i64 A.site, iv .i64 A.value, .sl 1 (ints A.kids)]]⟩), (12, ⟨1, true, true, .cells 3 [.agg [iv .i64 B.site, iv .i64 B.value, .sl 1 (ints B.kids)]]⟩), (87, ⟨1, true, false, .cells 1 (ints (kr 0))⟩), (10000000, ⟨0, true, false, .cells 3 (ns (T 0))⟩), (20000000, ⟨0, true, false, .map .str (entL (T 0))⟩), (30000011, ⟨1, true, false, .cells 1 []⟩), (30000012, ⟨1, true, false, .cells 1 []⟩)])
 ·intro key
  rw [hk0] at key
  refine Ctr.intro ⟨Tryz.f151, _, Tryz.call151, Tryz.func151, fold_body (by rfl) (by kernel_rfl), (by simp [Tryz.ntmps151]), (by simp), (by kernel_rfl), ?_⟩
  refine wks ?_
  refine wk1 @hmg ?_
  refine vcalm (by kernel_rfl) ?_
  refine wk3 @hmg @hga @hgb ?_
  refine guardK.dec (fun hA => ?_) (fun hA => ?_)
  ·have hsb : B.site = s := by omega
   obtain ⟨hbl, -⟩ := hkb hsb
   have dB : ¬ B.site < 0 := by omega
   refine wk2 (decide_eq_true hA) (decide_eq_false dB) ?_
   rw [hbl]
   exact key _ ⟨rfl, rfl, rfl, rfl, rfl, rfl, congrArg (fun z => some (iv .i64 z)) hsb, rfl, rfl, rfl⟩
  ·refine wk1 (decide_eq_false hA) ?_
   refine guardK.dec (fun hB => ?_) (fun hB => ?_)
   ·refine wk2 (decide_eq_false hA) (decide_eq_true hB) ?_
    refine condK.dec (fun hl => ?_) (fun hl => ?_)
    ·have hsb : B.site = s := by omega
     obtain ⟨hbl, -⟩ := hkb hsb
     refine wk3 (decide_eq_false hA) (decide_eq_true hB) (decide_eq_true hl) ?_
     rw [hbl]
     exact key _ ⟨rfl, rfl, rfl, rfl, rfl, rfl, congrArg (fun z => some (iv .i64 z)) hsb, rfl, rfl, rfl⟩
    ·have hsa : A.site = s := by omega
     obtain ⟨hal, -⟩ := hka hsa
     refine wk3 (decide_eq_false hA) (decide_eq_true hB) (decide_eq_false hl) ?_
     rw [hal]
     exact key _ ⟨rfl, rfl, rfl, rfl, rfl, rfl, congrArg (fun z => some (iv .i64 z)) hsa, rfl, rfl, rfl⟩
   ·have hsa : A.site = s := by omega
    obtain ⟨hal, -⟩ := hka hsa
    refine wk2 (decide_eq_false hA) (decide_eq_false hB) ?_
    rw [hal]
    exact key _ ⟨rfl, rfl, rfl, rfl, rfl, rfl, congrArg (fun z => some (iv .i64 z)) hsa, rfl, rfl, rfl⟩
 ·intro e ⟨g0, g2, g3, g5, g11, g12, g14, g16, g89, g90⟩
  have hf := And.intro g0 (And.intro g2 (And.intro g3 (And.intro g5 (And.intro g11 (And.intro g12 (And.intro g14 (And.intro g16 (And.intro g89 g90))))))))
  refine run_loop [0, 2, 3, 5, 11, 12, 14, 16, 89, 90] [0, 3, 5, 11, 12, 87, 10000000, 20000000] (α := {k : Nat // k ≤ n})
   (fun k => ⟨[(0, .hp ⟨0, 0⟩ 0 0), (2, .cl fid cs), (3, .hm ⟨3, 0⟩), (5, .hp ⟨5, 1⟩ 0 0), (11, .hp ⟨11, 1⟩ 0 0), (12, .hp ⟨12, 1⟩ 0 0), (14, iv .i64 s), (16, .hs ⟨87, 1⟩ 0 n), (89, iv .i64 n), (90, iv .i64 k.1)],
    [(0, ⟨0, true, true, .cells 2 [.agg [.hs ⟨10000000, gg k.1⟩ 0 (T k.1).length, .hm ⟨20000000, gg k.1⟩]]⟩), (3, ⟨0, true, false, .map (.arr 2 .i64) (E k.1)⟩), (5, ⟨1, true, true, .cells 2 [ab2 ia ib]⟩), (11, ⟨1, true, true, .cells 3 [.agg [iv .i64 A.site, iv .i64 A.value, .sl 1 (ints A.kids)]]⟩), (12, ⟨1, true, true, .cells 3 [.agg [iv .i64 B.site, iv .i64 B.value, .sl 1 (ints B.kids)]]⟩), (87, ⟨1, true, false, .cells 1 (ints (kr k.1))⟩), (10000000, ⟨gg k.1, true, false, .cells 3 (ns (T k.1))⟩), (20000000, ⟨gg k.1, true, false, .map .str (entL (T k.1))⟩)]⟩)
   (fun k => n - k.1) ⟨0, Nat.zero_le _⟩ (by first | rfl | simp [keep, keepEnv, keepRows, keepAV, keepPl, keepBody, keepElems, keepElem, keepCells, lget, inL, normG, gg, hf]) ?_
  rintro ⟨k, hk⟩
  simp only
  have hTk := hT k
  have hTk2 := hT (k + 1)
  have hklk := hkl k hk
  have hgg : normG (gg k + 1) = gg (k + 1) := rfl
  have hEk : gg (k + 1) = 1 := rfl
  obtain ⟨Tk, hTe⟩ : ∃ x, x = T k := ⟨_, rfl⟩
  generalize gg k = g at *
  refine wk0 ?_
  refine condK.dec (fun hlt => ?_) (fun hlt => ?_)
  ·have hk2 : k < n := by omega
   have hc := hst k hk2
   have e3 := hks k hk2
   have ga := fun h => (hka h).1
   have gb := fun h => (hkb h).1
   have ga2 := fun h => (hka h).2 k hk2
   have gb2 := fun h => (hkb h).2 k hk2
   have fa := fun h => hna h k hk2
   have fb := fun h => hnb h k hk2
   clear hst hks hka hkb hna hnb hbr hms hkl hk0 hT hf g0 g2 g3 g5 g11 g12 g14 g16 g89 g90 hmg hga hgb hia hib
   refine wk0 ?_
   refine condK.dec (fun ca => ?_) (fun ca => ?_)
   ·have hal := ga ca
    have ea := ga2 ca
    refine wk2 @hal @ea ?_
    refine condK.dec (fun cb => ?_) (fun cb => ?_)
    ·have hbl := gb cb
     have eb := gb2 cb
     refine wk2 @hbl @eb ?_
     refine callI (hc) ?_
     refine wk2 @hklk @e3 ?_
     exact ⟨⟨k + 1, by omega⟩, by simp only [gg]; exact (by first | rfl | simp), by simp only; omega⟩
    ·rw [fb cb] at hc
     refine wk0 ?_
     refine callI (hc) ?_
     refine wk2 @hklk @e3 ?_
     exact ⟨⟨k + 1, by omega⟩, by simp only [gg]; exact (by first | rfl | simp), by simp only; omega⟩
   ·rw [fa ca] at hc
    have cb : B.site = s := by omega
    have hbl := gb cb
    have eb := gb2 cb
    refine wk2 @hbl @eb ?_
    refine callI (hc) ?_
    refine wk2 @hklk @e3 ?_
    exact ⟨⟨k + 1, by omega⟩, by simp only [gg]; exact (by first | rfl | simp), by simp only; omega⟩
  ·have hkn : k = n := by omega
   subst hkn
   clear hst hks hka hkb hna hnb hkl hk0 hf g0 g2 g3 g5 g11 g12 g14 g16 g89 g90 hmg hga hgb hia hib
   have hkt : (kr k).take k = kr k := List.take_of_length_le (by omega)
   refine wk2 @hklk @hkt ?_
   refine callI (hbr) ?_
   refine wk1 @hms ?_
   simp [memOut, lget, VC, packOut, packKeys, cellsOf, cellKeys, disjB, inL, AV.isAgg, cellOut, ns_len, ns_take, List.take_of_length_le]
theorem c_Joins (T T2 : List Nd) (E2 : List (AV × AV)) (ia ib r fid : Nat) (cs : List AV) (hT : T.length < 100) (hT2 : T2.length < 101)
  (hj : CT 151 [tp T, .data (ab2 ia ib), .data (.cl fid cs), mm2 []] { val := iv .i64 r, args := [tp T2, .data (ab2 ia ib), .data (.cl fid cs), mm2 E2] }) :
  CT 77 [tp T, .data (iv .i64 ia), .data (iv .i64 ib), .data (.cl fid cs)] { val := iv .i64 r, args := [tp T2, .data (iv .i64 ia), .data (iv .i64 ib), .data (.cl fid cs)] } := by
 refine Ctr.intro ⟨Tryz.f77, _, Tryz.call77, Tryz.func77, fold_body (by rfl) (by kernel_rfl), (by simp [Tryz.ntmps77]), (by simp), (by kernel_rfl), ?_⟩
 refine wks ?_
 refine wk0 ?_
 refine callI (hj) ?_
 refine wk0 ?_
 simp [memOut, lget, VC, packOut, packKeys, cellsOf, cellKeys, disjB, inL, AV.isAgg, cellOut, ns_len, ns_take, List.take_of_length_le]
theorem c_apply12 (A B : List Nd) (T T2 N : List Nd) (ia ib r : Nat) (hT : T.length < 100) (hT2 : T2.length < 101)
  (hb : CT 75 [.data (.sl 1 [.agg [.sl 3 (ns A)], .agg [.sl 3 (ns B)]])] { val := .tup [.hp ⟨0, 0⟩ 0 0, .sl 1 (ints [(ia : Int), (ib : Int)]), iv .i64 0], new := [tp T], args := [.data (.sl 1 [.agg [.sl 3 (ns A)], .agg [.sl 3 (ns B)]])] })
  (hj : CT 77 [tp T, .data (iv .i64 ia), .data (iv .i64 ib), .data (.cl 150 [bxl])] { val := iv .i64 r, args := [tp T2, .data (iv .i64 ia), .data (iv .i64 ib), .data (.cl 150 [bxl])] })
  (he : CT 76 [tp T2, .data (iv .i64 r)] { val := .tup [.agg [.sl 3 (ns N)], iv .i64 0], args := [tp T2, .data (iv .i64 r)] }) :
  CT 33 [.data (iv .i64 12), .data (.agg [.sl 3 (ns A)]), .data (.agg [.sl 3 (ns B)])] { val := .tup [.agg [.sl 3 (ns N)], iv .i64 0], args := [.data (iv .i64 12), .data (.agg [.sl 3 (ns A)]), .data (.agg [.sl 3 (ns B)])] } := by
 have hg0 : gi [(ia : Int), (ib : Int)] 0 = ia := rfl
 have hg1 : gi [(ia : Int), (ib : Int)] (Int.toNat 1) = ib := rfl
 refine Ctr.intro ⟨Tryz.f33, _, Tryz.call33, Tryz.func33, fold_body (by rfl) (by kernel_rfl), (by simp [Tryz.ntmps33]), (by simp), (by kernel_rfl), ?_⟩
 refine wks ?_
 refine wk0 ?_
 refine callI (c_Op12) ?_
 refine wk0 ?_
 refine callI (hb) ?_
 refine wk2 @hg0 @hg1 ?_
 refine callI (hj) ?_
 refine wk0 ?_
 refine callI (he) ?_
 refine wk0 ?_
 refine vcalm (by kernel_rfl) ?_
 refine wk0 ?_
 simp [memOut, lget, VC, packOut, packKeys, cellsOf, cellKeys, disjB, inL, AV.isAgg, cellOut, cleanL, cleanCell]
end Go.Proofs.YteipiejlljnclaaGreatDoor
end
