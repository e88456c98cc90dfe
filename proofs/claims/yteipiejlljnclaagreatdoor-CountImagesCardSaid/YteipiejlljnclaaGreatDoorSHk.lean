/- The program's lists of values (diagram, slices): leaves' values in order, what stands in a list. Conditions stand in each. -/
import Derived.Test.YteipiejlljnclaaGreatDoorRHe
import Derived.Test.YteipiejlljnclaaGreatDoorRFj
set_option linter.unusedVariables false
set_option linter.unusedSimpArgs false
set_option maxRecDepth 10000
set_option maxHeartbeats 16000000
namespace Go.Proofs.YteipiejlljnclaaGreatDoor
open Go Go.AL
attribute [local irreducible] run opK opD callK
attribute [local simp] keep keepEnv keepRows keepAV keepPl keepBody keepElems keepElem keepCells lget inL normG
attribute [local go_sem] not_true_eq_false not_false_eq_true decide_false
def swp : Nat → List Int → List Int
 | 0, a :: b :: l => b :: a :: l
 | j + 1, a :: l => a :: swp j l
 | _, l => l
theorem swp_perm : ∀ (j : Nat) (l : List Int), (swp j l).Perm l
 | 0, [] => .refl _
 | 0, [a] => .refl _
 | 0, a :: b :: l => .swap _ _ _
 | _ + 1, [] => .refl _
 | j + 1, a :: l => (swp_perm j l).cons a
theorem swp_set : ∀ (j : Nat) (l : List Int), j + 1 < l.length → (l.set (j + 1) (gi l j)).set j (gi l (j + 1)) = swp j l
 | 0, a :: b :: l, _ => rfl
 | j + 1, a :: l, h => by
  have ih := swp_set j l (by simp only [List.length_cons] at h; omega)
  show a :: ((l.set (j + 1) (gi l j)).set j (gi l (j + 1))) = a :: swp j l
  rw [ih]
def insA1 : Nat → List Int → List Int
 | 0, l => l
 | j + 1, l => if gi l (j + 1) < gi l j then insA1 j (swp j l) else l
theorem insA1_perm : ∀ (j : Nat) (l : List Int), (insA1 j l).Perm l
 | 0, l => .refl _
 | j + 1, l => by
  rw [insA1]
  split
  ·exact (insA1_perm j _).trans (swp_perm j l)
  ·exact .refl _
def insA : Nat → Nat → List Int → List Int
 | 0, _, l => l
 | k + 1, i, l => insA k (i + 1) (insA1 i l)
theorem insA_perm : ∀ (k i : Nat) (l : List Int), (insA k i l).Perm l
 | 0, _, l => .refl _
 | k + 1, i, l => (insA_perm k (i + 1) _).trans (insA1_perm i l)
theorem c_Less (x y : Int) : CT 258 [.data (iv .i64 x), .data (iv .i64 y)] { val := .sc (.bool (decide (x < y))), args := [.data (iv .i64 x), .data (iv .i64 y)] } := by
 refine Ctr.intro ⟨Tryz.f258, _, Tryz.call258, Tryz.func258, fold_body (by rfl) (by kernel_rfl), (by simp [Tryz.ntmps258]), (by simp), (by kernel_rfl), ?_⟩
 refine wks ?_
 refine wk0 ?_
 refine callI (c_isNaN x) ?_
 refine wk0 ?_
 trivial
theorem c_insOrd (L : List Int) (hL : L.length < 100) (h0 : 0 < L.length) : CT 252 [.slc (.cells 1 (ints L)), .data (iv .i64 0), .data (iv .i64 L.length)] { val := .tup [], args := [.slc (.cells 1 (ints (insA (L.length - 1) 1 L))), .data (iv .i64 0), .data (iv .i64 L.length)] } := by
 refine Ctr.intro ⟨Tryz.f252, _, Tryz.call252, Tryz.func252, fold_body (by rfl) (by kernel_rfl), (by simp [Tryz.ntmps252]), (by simp), (by kernel_rfl), ?_⟩
 refine wks ?_
 refine wk0 ?_
 obtain ⟨n, hn⟩ : ∃ n, L.length = n := ⟨_, rfl⟩
 rw [hn] at hL h0 ⊢
 refine run_loop [0, 1, 2, 6] [0] (α := {s : Nat × List Int // 1 ≤ s.1 ∧ s.1 ≤ n ∧ s.2.length = n ∧ insA (n - s.1) s.1 s.2 = insA (n - 1) 1 L})
  (fun s => ⟨[(0, .hs ⟨0, 0⟩ 0 n), (1, iv .i64 0), (2, iv .i64 n), (6, iv .i64 s.1.1)], [(0, ⟨0, true, false, .cells 1 (ints s.1.2)⟩)]⟩)
  (fun s => n - s.1.1) ⟨(1, L), by simp only; omega, by simp only; omega, hn, rfl⟩ (by first | rfl | simp) ?_
 generalize insA (n - 1) 1 L = R
 clear hn h0
 rintro ⟨⟨i, l⟩, hi1, hi2, hl, hR⟩
 simp only at hi1 hi2 hl hR
 refine wk0 ?_
 refine condK.dec (fun h => ?_) (fun h => ?_)
 ·have hin : i < n := by omega
  rw [show n - i = (n - (i + 1)) + 1 by omega, insA] at hR
  refine wk0 ?_
  refine run_loop [0, 1, 2, 6, 7] [0] (α := {s : Nat × List Int // s.1 ≤ i ∧ s.2.length = n ∧ insA1 s.1 s.2 = insA1 i l})
   (fun s => ⟨[(0, .hs ⟨0, 0⟩ 0 n), (1, iv .i64 0), (2, iv .i64 n), (6, iv .i64 i), (7, iv .i64 s.1.1)], [(0, ⟨0, true, false, .cells 1 (ints s.1.2)⟩)]⟩)
   (fun s => s.1.1) ⟨(i, l), Nat.le_refl _, hl, rfl⟩ (by first | rfl | simp) ?_
  generalize insA1 i l = R1 at *
  clear hl l
  rintro ⟨⟨j, l⟩, hj, hl, hR1⟩
  simp only at hj hl hR1
  cases j with
  | zero =>
   rw [insA1] at hR1
   subst hR1
   refine wk0 ?_
   refine vcalm (by kernel_rfl) ?_
   refine wk0 ?_
   exact ⟨⟨(i + 1, l), by simp only; omega, by simp only; omega, hl, hR⟩, (by first | rfl | simp), by simp only; omega⟩
  | succ j =>
   have hss := swp_set j l (by omega)
   rw [insA1] at hR1
   refine wk0 ?_
   refine callI (c_Less (gi l (j + 1)) (gi l j)) ?_
   refine wk0 ?_
   refine vcalm (by kernel_rfl) ?_
   refine condK.dec (fun h2 => ?_) (fun h2 => ?_)
   ·rw [if_pos h2] at hR1
    refine wk0 ?_
    refine vcalm (by kernel_rfl) ?_
    refine wk1 @hss ?_
    exact ⟨⟨(j, swp j l), by simp only; omega, by simp only; rw [(swp_perm j l).length_eq]; exact hl, hR1⟩, (by first | rfl | simp), by simp only; omega⟩
   ·rw [if_neg h2] at hR1
    subst hR1
    refine wk0 ?_
    exact ⟨⟨(i + 1, l), by simp only; omega, by simp only; omega, hl, hR⟩, (by first | rfl | simp), by simp only; omega⟩
 ·have e : n - i = 0 := by omega
  rw [e, insA] at hR
  subst hR
  refine wk0 ?_
  simp [memOut, lget, VC, packOut, packKeys, cellsOf, cellKeys, disjB, inL, AV.isAgg, cellOut, cellsOut, hsOut, List.take_of_length_le]
theorem c_pdqO (L : List Int) (b : Int) (hL : L.length ≤ 12) (h0 : 0 < L.length) : CT 205 [.slc (.cells 1 (ints L)), .data (iv .i64 0), .data (iv .i64 L.length), .data (iv .i64 b)] { val := .tup [], args := [.slc (.cells 1 (ints (insA (L.length - 1) 1 L))), .data (iv .i64 0), .data (iv .i64 L.length), .data (iv .i64 b)] } := by
 have hc := c_insOrd L (by omega) h0
 refine Ctr.intro ⟨Tryz.f205, _, Tryz.call205, Tryz.func205, fold_body (by rfl) (by kernel_rfl), (by simp [Tryz.ntmps205]), (by simp), (by kernel_rfl), ?_⟩
 refine wks ?_
 refine wk0 ?_
 refine run_loop [0, 1, 2, 3, 8, 9] [0] (α := Unit) (fun _ => ⟨[(0, .hs ⟨0, 0⟩ 0 L.length), (1, iv .i64 0), (2, iv .i64 L.length), (3, iv .i64 b), (8, .sc (.bool true)), (9, .sc (.bool true))], [(0, ⟨0, true, false, .cells 1 (ints L)⟩)]⟩) (fun _ => 0) () (by first | rfl | simp) ?_
 rintro ⟨⟩
 refine wk0 ?_
 refine callI (hc) ?_
 refine wk0 ?_
 simp [memOut, lget, VC, packOut, packKeys, cellsOf, cellKeys, disjB, inL, AV.isAgg, cellOut, cellsOut, hsOut, List.take_of_length_le]
theorem c_SortI (L : List Int) (hL : L.length ≤ 12) (h0 : 0 < L.length) : CT 152 [.slc (.cells 1 (ints L))] { val := .tup [], args := [.slc (.cells 1 (ints (insA (L.length - 1) 1 L)))] } := by
 have hl := c_Len L.length (by omega)
 have hc := c_pdqO L (Sort.bitsLen L.length) hL h0
 refine Ctr.intro ⟨Tryz.f152, _, Tryz.call152, Tryz.func152, fold_body (by rfl) (by kernel_rfl), (by simp [Tryz.ntmps152]), (by simp), (by kernel_rfl), ?_⟩
 refine wks ?_
 refine wk0 ?_
 refine callI (hl) ?_
 refine wk0 ?_
 refine callI (hc) ?_
 refine wk0 ?_
 simp [memOut, lget, VC, packOut, packKeys, cellsOf, cellKeys, disjB, inL, AV.isAgg, cellOut, cellsOut, hsOut, List.take_of_length_le]
theorem c_Compact (L : List Int) (hL : L.length < 1000) (hd : ∀ k, k + 1 < L.length → gi L (k + 1) ≠ gi L k) : CT 153 [.slc (.cells 1 (ints L))] { val := .hs ⟨0, 0⟩ 0 L.length, new := [.slc (.cells 1 (ints L))], args := [.lost] } := by
 refine Ctr.intro ⟨Tryz.f153, _, Tryz.call153, Tryz.func153, fold_body (by rfl) (by kernel_rfl), (by simp [Tryz.ntmps153]), (by simp), (by kernel_rfl), ?_⟩
 refine wks ?_
 refine wk0 ?_
 refine condK.dec (fun h => ?_) (fun h => ?_)
 ·refine wk0 ?_
  simp [memOut, lget, VC, packOut, packKeys, cellsOf, cellKeys, disjB, inL, AV.isAgg, cellOut, cellsOut, hsOut, List.take_of_length_le]
 ·refine wk0 ?_
  refine run_loop [0, 3] [0] (α := {k : Nat // k + 1 ≤ L.length}) (fun k => ⟨[(0, .hs ⟨0, 0⟩ 0 L.length), (3, iv .i64 ((k.1 + 1 : Nat) : Int))], [(0, ⟨0, true, false, .cells 1 (ints L)⟩)]⟩) (fun k => L.length - k.1) ⟨0, by omega⟩ (by first | rfl | simp) ?_
  rintro ⟨k, hk⟩
  refine wk0 ?_
  refine condK.dec (fun h2 => ?_) (fun h2 => ?_)
  ·refine wk0 ?_
   refine vcalm (by kernel_rfl) ?_
   refine condK.dec (fun h3 => absurd h3 (hd k (by omega))) (fun h3 => ?_)
   refine wk0 ?_
   exact ⟨⟨k + 1, by omega⟩, (by first | rfl | simp), by simp only; omega⟩
  ·refine wk0 ?_
   simp [memOut, lget, VC, packOut, packKeys, cellsOf, cellKeys, disjB, inL, AV.isAgg, cellOut, cellsOut, hsOut, List.take_of_length_le]
def lvl : List Tr → List Int
 | [] => []
 | .lf v :: E => v :: lvl E
 | .br _ _ :: E => lvl E
theorem lvl_append : ∀ (a b : List Tr), lvl (a ++ b) = lvl a ++ lvl b
 | [], b => rfl
 | .lf v :: a, b => by simp only [List.cons_append, lvl, lvl_append a b]
 | .br _ _ :: a, b => by simp only [List.cons_append, lvl, lvl_append a b]
theorem c_leafV (n : Nd) : CT 79 [ndat n] { val := .tup [iv .i64 n.value, .sc (.bool (decide (n.site < 0)))], args := [ndat n] } := by
 obtain ⟨s, v, k⟩ := n
 refine Ctr.intro ⟨Tryz.f79, _, Tryz.call79, Tryz.func79, fold_body (by rfl) (by kernel_rfl), (by simp [Tryz.ntmps79]), (by simp), (by kernel_rfl), ?_⟩
 refine wks ?_
 refine wk0 ?_
 refine vcalm (by kernel_rfl) ?_
 refine wk0 ?_
 trivial
theorem lvl_len : ∀ (E : List Tr), (lvl E).length ≤ E.length
 | [] => Nat.le_refl _
 | .lf v :: E => by have := lvl_len E; simp only [lvl, List.length_cons]; omega
 | .br _ _ :: E => by have := lvl_len E; simp only [lvl, List.length_cons]; omega
def vls (E : List Tr) : List Int := insA ((lvl E).length - 1) 1 (lvl E)
theorem c_collect (E : List Tr) (hE : E.length < 1000) (hv : CT 62 [dgt E] { val := iv .i64 0, args := [dgt E] }) (h12 : (lvl E).length ≤ 12) (h0 : 0 < (lvl E).length) (hd : ∀ k, k + 1 < (vls E).length → gi (vls E) (k + 1) ≠ gi (vls E) k) :
  CT 78 [dgt E, .data (.sc (.func (.func 79) #[] #[]))] { val := .tup [.sl 1 (ints (vls E)), iv .i64 0], args := [dgt E, .data (.sc (.func (.func 79) #[] #[]))] } := by
 have hnl := nds_length E
 have hs := c_SortI (lvl E) h12 h0
 have hle : (vls E).length = (lvl E).length := (insA_perm _ _ _).length_eq
 have hc := c_Compact (vls E) (by omega) hd
 have hvt : (vls E).take (lvl E).length = vls E := List.take_of_length_le (by omega)
 change CT 152 _ { val := _, args := [.slc (.cells 1 (ints (vls E)))] } at hs
 clear hd
 refine Ctr.intro ⟨Tryz.f78, _, Tryz.call78, Tryz.func78, fold_body (by rfl) (by kernel_rfl), (by simp [Tryz.ntmps78]), (by simp), (by kernel_rfl), ?_⟩
 refine wks ?_
 refine wk0 ?_
 refine callI (hv) ?_
 refine wk0 ?_
 refine run_loop [1, 7, 18, 19, 20] [7] (α := {i : Nat // i ≤ E.length})
  (fun i => ⟨[(1, .sc (.func (.func 79) #[] #[])), (7, .hs ⟨7, 1⟩ 0 (lvl (E.take i.1)).length), (18, .sl 3 (ns (nds E))), (19, iv .i64 E.length), (20, iv .i64 i.1)], [(7, ⟨1, true, false, .cells 1 (ints (lvl (E.take i.1)))⟩)]⟩)
  (fun i => E.length - i.1) ⟨0, Nat.zero_le _⟩ (by first | rfl | simp) ?_
 rintro ⟨i, hi⟩
 have hlv := lvl_len (E.take i)
 rw [List.length_take] at hlv
 refine wk0 ?_
 refine condK.dec (fun h => ?_) (fun h => ?_)
 ·have hi2 : i < E.length := by omega
  obtain ⟨t, ht⟩ : ∃ t, t = E[i] := ⟨_, rfl⟩
  have hg : gn (nds E) i = nd E t := by rw [gn_nds hi2, ← ht]
  have htk : lvl (E.take (i + 1)) = lvl (E.take i) ++ lvl [t] := by rw [List.take_succ_eq_append_getElem hi2, ← ht, lvl_append]
  clear hs hc hle hv h12 h0 ht
  cases t with
  | lf v =>
   have hnd : nd E (.lf v) = ⟨-1, v, []⟩ := rfl
   rw [hnd] at hg
   have hcv := c_leafV ⟨-1, v, []⟩
   have e2 : (lvl (E.take i) ++ lvl [.lf v]).length = (lvl (E.take i)).length + 1 := by simp [lvl]
   refine wk1 @hg ?_
   refine callI (hcv) ?_
   refine wk0 ?_
   exact ⟨⟨i + 1, by omega⟩, by simp only [htk, e2]; exact (by first | rfl | simp), by simp only; omega⟩
  | br s ks =>
   have hnd : nd E (.br s ks) = ⟨s, 0, ks.map fun k => (ix E k : Int)⟩ := rfl
   rw [hnd] at hg
   generalize (ks.map fun k => (ix E k : Int)) = kk at *
   have hcv := c_leafV ⟨s, 0, kk⟩
   have e2 : lvl (E.take i) ++ lvl [.br s ks] = lvl (E.take i) := by simp [lvl]
   refine wk1 @hg ?_
   refine callI (hcv) ?_
   refine wk0 ?_
   exact ⟨⟨i + 1, by omega⟩, by simp only [htk, e2]; exact (by first | rfl | simp), by simp only; omega⟩
 ·have e : E.take i = E := by rw [show i = E.length by omega, List.take_length]
  rw [e]
  refine wk0 ?_
  refine callI (hs) ?_
  refine wk2 @hle @hvt ?_
  refine callI (hc) ?_
  refine wk0 ?_
  simp [memOut, lget, VC, packOut, packKeys, cellsOf, cellKeys, disjB, inL, AV.isAgg, cellOut, cellsOut, hsOut, List.take_of_length_le]
theorem c_Values (E : List Tr) (L : List Int) (hc : CT 78 [dgt E, .data (.sc (.func (.func 79) #[] #[]))] { val := .tup [.sl 1 (ints L), iv .i64 0], args := [dgt E, .data (.sc (.func (.func 79) #[] #[]))] }) :
  CT 34 [dgt E] { val := .tup [.sl 1 (ints L), iv .i64 0], args := [dgt E] } := by
 refine Ctr.intro ⟨Tryz.f34, _, Tryz.call34, Tryz.func34, fold_body (by rfl) (by kernel_rfl), (by simp [Tryz.ntmps34]), (by simp), (by kernel_rfl), ?_⟩
 refine wks ?_
 refine wk0 ?_
 refine callI (hc) ?_
 refine wk0 ?_
 simp [memOut, lget, VC, packOut, packKeys, cellsOf, cellKeys, disjB, inL, AV.isAgg, cellOut, cellsOut, hsOut, List.take_of_length_le]
theorem idx_gi : ∀ {K : List Int} {x : Int} {i : Nat}, i < K.length → gi K i = x → (∀ j, j < i → gi K j ≠ x) → K.idxOf x = i
 | a :: K, x, 0, _, h, _ => by
  have : a = x := h
  subst this; simp
 | a :: K, x, i + 1, hi, h, hn => by
  have h0 : a ≠ x := hn 0 (by omega)
  have := idx_gi (K := K) (x := x) (i := i) (by simp only [List.length_cons] at hi; omega) h fun j hj => hn (j + 1) (by omega)
  rw [List.idxOf_cons, show (a == x) = false by simpa using h0, cond_false, this]
theorem gi_idx {K : List Int} {x : Int} (h : x ∈ K) : gi K (K.idxOf x) = x := by
 have hl := List.idxOf_lt_length_iff.mpr h
 unfold gi
 rw [List.getD_eq_getElem?_getD, List.getElem?_eq_getElem hl]
 simp
theorem c_Index (K : List Int) (x : Int) (hK : K.length < 1000) (hx : x ∈ K) : CT 82 [idat K, .data (iv .i64 x)] { val := iv .i64 (K.idxOf x : Nat), args := [idat K, .data (iv .i64 x)] } := by
 have hl := List.idxOf_lt_length_iff.mpr hx
 have hg := gi_idx hx
 refine Ctr.intro ⟨Tryz.f82, _, Tryz.call82, Tryz.func82, fold_body (by rfl) (by kernel_rfl), (by simp [Tryz.ntmps82]), (by simp), (by kernel_rfl), ?_⟩
 refine wks ?_
 refine wk0 ?_
 refine run_loop [0, 1, 6, 7, 8] [] (α := {i : Nat // i ≤ K.idxOf x ∧ ∀ j, j < i → gi K j ≠ x}) (fun i => ⟨[(0, .sl 1 (ints K)), (1, iv .i64 x), (6, .sl 1 (ints K)), (7, iv .i64 K.length), (8, iv .i64 i.1)], []⟩) (fun i => K.length - i.1) ⟨0, Nat.zero_le _, fun _ h => absurd h (Nat.not_lt_zero _)⟩ (by first | rfl | simp) ?_
 rintro ⟨i, hi, hn⟩
 refine wk0 ?_
 refine condK.dec (fun h => ?_) (fun h => ?_)
 ·have e := idx_gi (by omega) h.symm hn
  refine wk1 @e ?_
  trivial
 ·have hne : i ≠ K.idxOf x := fun e => h (by rw [e, hg])
  refine wk0 ?_
  refine ⟨⟨i + 1, by omega, fun j hj => ?_⟩, (by first | rfl | simp), by simp only; omega⟩
  by_cases hj2 : j = i
  ·subst hj2; exact fun e => h e.symm
  ·exact hn j (by omega)
theorem c_exch (K Q : List Int) (x : Int) (hK : K.length < 1000) (hQ : Q.length = K.length) (hx : x ∈ K) :
  CT 81 [.data (iv .i64 x), .data (.dp 1 [.sl 1 (ints K)] 0 0), .data (.dp 1 [.sl 1 (ints Q)] 0 0)] { val := iv .i64 (gi Q (K.idxOf x)), args := [.data (iv .i64 x), .data (.dp 1 [.sl 1 (ints K)] 0 0), .data (.dp 1 [.sl 1 (ints Q)] 0 0)] } := by
 have hl := List.idxOf_lt_length_iff.mpr hx
 have hc := c_Index K x hK hx
 generalize K.idxOf x = i at *
 refine Ctr.intro ⟨Tryz.f81, _, Tryz.call81, Tryz.func81, fold_body (by rfl) (by kernel_rfl), (by simp [Tryz.ntmps81]), (by simp), (by kernel_rfl), ?_⟩
 refine wks ?_
 refine wk0 ?_
 refine callI (hc) ?_
 refine wk0 ?_
 trivial
end Go.Proofs.YteipiejlljnclaaGreatDoor
