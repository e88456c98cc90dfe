/- Nodes of decision diagrams in the program: how they stand there; the oracle's (exactpplref19) comparison and placing of a node. Conditions stand in each. -/
import Derived.Test.YteipiejlljnclaaGreatDoorRCa2
import Derived.Test.YteipiejlljnclaaGreatDoorREa
set_option linter.unusedVariables false
set_option linter.unusedSimpArgs false
set_option maxRecDepth 10000
set_option maxHeartbeats 8000000
section
namespace Go.Proofs.YteipiejlljnclaaGreatDoor
open Go Go.AL
attribute [local irreducible] run opK opD callK
attribute [local simp] keep keepEnv keepRows keepAV keepPl keepBody keepElems keepElem keepCells lget inL normG
abbrev bl (b : Bool) : AV := .sc (.bool b)
def ints (l : List Int) : List AV := l.map fun n => .sc (.int .i64 n)
def gi (l : List Int) (i : Nat) : Int := l.getD i 0
theorem ints_len (l : List Int) : (ints l).length = l.length := by simp [ints]
theorem ints_at {l : List Int} {i : Nat} (h : i < l.length) : at_ (ints l) i = .sc (.int .i64 (gi l i)) := by simp [at_, ints, gi, List.getD, h]
theorem ints_set (l : List Int) (i : Nat) (n : Int) : (ints l).set i (.sc (.int .i64 n)) = ints (l.set i n) := by simp [ints, List.map_set]
theorem ints_take (l : List Int) (n : Nat) : (ints l).take n = ints (l.take n) := by simp [ints]
theorem ints_drop (l : List Int) (n : Nat) : (ints l).drop n = ints (l.drop n) := by simp [ints]
theorem ints_append (a b : List Int) : ints a ++ ints b = ints (a ++ b) := by simp [ints]
theorem ints_snoc (a : List Int) (n : Int) : ints a ++ [.sc (.int .i64 n)] = ints (a ++ [n]) := by simp [ints]
theorem ints_zeros (n : Nat) : List.replicate n (AV.sc (.int .i64 0)) = ints (List.replicate n 0) := by simp [ints]
theorem setPart_ints (l : List Int) (i j : Nat) (v : AV) : setPart false 1 1 (at_ (ints l) i) j v = v := by
 by_cases h : i < l.length
 ·rw [ints_at h]; simp [setPart]
 ·have : at_ (ints l) i = .junk := by simp [at_, ints, List.getD, List.getElem?_eq_none (Nat.le_of_not_lt h)]
  rw [this]; simp [setPart]
def nc (n : Nd) : AV := .agg [.sc (.int .i64 n.site), .sc (.int .i64 n.value), .sl 1 (ints n.kids)]
def ns (l : List Nd) : List AV := l.map nc
def gn (l : List Nd) (i : Nat) : Nd := l.getD i default
theorem ns_len (l : List Nd) : (ns l).length = l.length := by simp [ns]
theorem ns_at {l : List Nd} {i : Nat} (h : i < l.length) : at_ (ns l) i = .agg [.sc (.int .i64 (gn l i).site), .sc (.int .i64 (gn l i).value), .sl 1 (ints (gn l i).kids)] := by simp [at_, ns, gn, nc, List.getD, h]
theorem ns_take (l : List Nd) (n : Nat) : (ns l).take n = ns (l.take n) := by simp [ns]
theorem ns_append (a b : List Nd) : ns a ++ ns b = ns (a ++ b) := by simp [ns]
theorem ns_snoc (a : List Nd) (s v : Int) (k : List Int) : ns a ++ [.agg [.sc (.int .i64 s), .sc (.int .i64 v), .sl 1 (ints k)]] = ns (a ++ [⟨s, v, k⟩]) := by simp [ns, nc]
attribute [go_sem ↓] setPart_ints
attribute [go_sem] ints_len ints_at ints_set ints_take ints_drop ints_append ints_snoc ints_zeros nc ns_len ns_at ns_take ns_append ns_snoc List.take_length List.take_nil List.replicate_one
attribute [go_sem] roomy
theorem gi_ext {a b : List Int} (hl : a.length = b.length) (h : ∀ i, i < a.length → gi a i = gi b i) : a = b := by
 apply List.ext_getElem hl
 intro i h1 h2
 have := h i h1
 simpa [gi, List.getD, h1, h2] using this
@[go_sem] abbrev idat (l : List Int) : PA := .data (.sl 1 (ints l))
@[go_sem] abbrev ndat (n : Nd) : PA := .data (nc n)
theorem c_SameInts (a b : List Int) (ha : a.length < 4611686018427387904) : CT 73 [idat a, idat b] { val := bl (decide (a = b)), args := [idat a, idat b] } := by
 refine Ctr.intro ⟨Tryz.f73, _, Tryz.call73, Tryz.func73, fold_body (by rfl) (by kernel_rfl), (by simp [Tryz.ntmps73]), (by simp), (by kernel_rfl), ?_⟩
 refine wks ?_
 refine wk0 ?_
 refine condK.dec (fun h => ?_) (fun h => ?_)
 ·have hne : a ≠ b := fun e => h (by rw [e])
  refine wk2 @hne @decide_false ?_
  trivial
 ·have hl : a.length = b.length := by omega
  refine wk0 ?_
  refine run_loop [0, 1, 5] [] (α := {i : Nat // i ≤ a.length ∧ ∀ j, j < i → gi a j = gi b j}) (fun i => ⟨[(0, .sl 1 (ints a)), (1, .sl 1 (ints b)), (5, iv .i64 i.1)], []⟩)
   (fun i => a.length - i.1) ⟨0, Nat.zero_le _, fun _ h => absurd h (Nat.not_lt_zero _)⟩ rfl ?_
  rintro ⟨i, hi, hq⟩
  refine wk0 ?_
  refine condK.dec (fun h => ?_) (fun h => ?_)
  ·refine wk0 ?_
   refine vcalm (by kernel_rfl) ?_
   refine condK.dec (fun h2 => ?_) (fun h2 => ?_)
   ·have hne : a ≠ b := fun e => h2 (by rw [e])
    refine wk2 @hne @decide_false ?_
    trivial
   ·refine wk0 ?_
    refine ⟨⟨i + 1, by omega, fun j hj => ?_⟩, rfl, by simp only; omega⟩
    by_cases hj2 : j = i
    ·subst hj2; exact Classical.not_not.1 h2
    ·exact hq j (by omega)
  ·have he : a = b := gi_ext hl fun j hj => hq j (by omega)
   refine wk1 @he ?_
   trivial
theorem c_SameNode (a b : Nd) (ha : a.kids.length < 4611686018427387904) : CT 176 [ndat a, ndat b] { val := bl (decide (a = b)), args := [ndat a, ndat b] } := by
 obtain ⟨s, v, k⟩ := a
 obtain ⟨s', v', k'⟩ := b
 refine Ctr.intro ⟨Tryz.f176, _, Tryz.call176, Tryz.func176, fold_body (by rfl) (by kernel_rfl), (by simp [Tryz.ntmps176]), (by simp), (by kernel_rfl), ?_⟩
 refine wks ?_
 refine wk0 ?_
 refine guardK.dec (fun h => ?_) (fun h => ?_)
 ·subst h
  refine wk0 ?_
  refine guardK.dec (fun h => ?_) (fun h => ?_)
  ·subst h
   refine wk0 ?_
   refine callI (c_SameInts k k' ha) ?_
   refine wk0 ?_
   by_cases h : k = k'
   ·subst h
    refine wk0 ?_
    trivial
   ·have hne : (⟨s, v, k⟩ : Nd) ≠ ⟨s, v, k'⟩ := fun e => h (by simpa using e)
    refine wk3 @h @hne @decide_false ?_
    trivial
  ·have hne : (⟨s, v, k⟩ : Nd) ≠ ⟨s, v', k'⟩ := fun e => h (by simp at e; exact e.1)
   refine wk3 @h @hne @decide_false ?_
   trivial
 ·have hne : (⟨s, v, k⟩ : Nd) ≠ ⟨s', v', k'⟩ := fun e => h (by simp at e; exact e.1)
  refine wk3 @h @hne @decide_false ?_
  trivial
theorem c_IsBranch (n : Nd) : CT 56 [ndat n] { val := bl (decide (n.site ≠ -1)), args := [ndat n] } := by
 refine Ctr.intro ⟨Tryz.f56, _, Tryz.call56, Tryz.func56, fold_body (by rfl) (by kernel_rfl), (by simp [Tryz.ntmps56]), (by simp), (by kernel_rfl), ?_⟩
 refine wks ?_
 refine wk0 ?_
 trivial
theorem c_ConstD (v : Int) : CT 53 [.data (iv .i64 v)] { val := .agg [.sl 3 (ns [⟨-1, v, []⟩])], args := [.data (iv .i64 v)] } := by
 refine Ctr.intro ⟨Tryz.f53, _, Tryz.call53, Tryz.func53, fold_body (by rfl) (by kernel_rfl), (by simp [Tryz.ntmps53]), (by simp), (by kernel_rfl), ?_⟩
 refine wks ?_
 refine wk0 ?_
 refine ⟨Or.inr ?_, ?_⟩ <;> simp [cellsOut, cellOut, hsOut, cellKeys, lget, disjB, cleanL, cleanCell, VC, ns, nc, ints, inL]
def plc (u : List Nd) (n : Nd) : List Nd × Int :=
 if n.site ≠ -1 ∧ ∀ k ∈ n.kids, k = gi n.kids 0 then (u, gi n.kids 0) else if n ∈ u then (u, (u.idxOf n : Int)) else (u ++ [n], u.length)
theorem gi_mem {l : List Int} {i : Nat} (h : i < l.length) : gi l i ∈ l := by simp [gi, List.getD, h]
theorem gn_mem {l : List Nd} {i : Nat} (h : i < l.length) : gn l i ∈ l := by simp [gn, List.getD, h]
theorem idx_of {u : List Nd} {n : Nd} {i : Nat} (hi : i < u.length) (h : gn u i = n) (hq : ∀ j, j < i → gn u j ≠ n) : u.idxOf n = i := by
 have e : ∀ j (hj : j < u.length), gn u j = u[j] := fun j hj => by simp [gn, List.getD, hj]
 rw [e i hi] at h
 have hlt := List.idxOf_lt_length_iff.mpr (by rw [← h]; exact List.getElem_mem hi : n ∈ u)
 have hget : u[u.idxOf n] = n := List.getElem_idxOf hlt
 rcases Nat.lt_trichotomy (u.idxOf n) i with h1 | h1 | h1
 ·exact absurd hget (by have := hq _ h1; rwa [e _ hlt] at this)
 ·exact h1
 ·have := List.not_of_lt_findIdx (p := fun x => x == n) (xs := u) (i := i) (by simpa [List.idxOf] using h1)
  simp [h] at this
theorem c_Place (u : List Nd) (n : Nd) (hu : ∀ m ∈ u, m.kids.length < 4611686018427387904) (hk : n.kids.length < 4611686018427387904) (hl : u.length < 549755813888) (h0 : n.site ≠ -1 → n.kids ≠ []) : CT 110 [.slc (.cells 3 (ns u)), ndat n]
  {val := .tup [.hs ⟨0, 0⟩ 0 (plc u n).1.length, iv .i64 (plc u n).2], new := [.slc (.cells 3 (ns (plc u n).1))], args := [.lost, ndat n] } := by
 obtain ⟨s, v, k⟩ := n
 simp only at hk h0
 refine Ctr.intro ⟨Tryz.f110, _, Tryz.call110, Tryz.func110, fold_body (by rfl) (by kernel_rfl), (by simp [Tryz.ntmps110]), (by simp), (by kernel_rfl), ?_⟩
 refine wks ?_
 refine wk0 ?_
 refine callI (c_IsBranch ⟨s, v, k⟩) ?_
 refine wk0 ?_
 refine condK.dec (fun h => ?_) (fun h => ?_)
 ·have hk0 : 0 < k.length := by
   cases k with
   | nil => exact absurd rfl (h0 h)
   | cons a k => simp
  refine wk0 ?_
  refine run_loop [0, 3, 6, 7] [0, 3] (α := {i : Nat // 1 ≤ i ∧ i ≤ k.length}) (fun i => ⟨[(0, .hs ⟨0, 0⟩ 0 u.length), (3, .hp ⟨3, 1⟩ 0 0), (6, bl (decide (∀ j, j < i.1 → gi k j = gi k 0))), (7, iv .i64 i.1)], [(0, ⟨0, true, false, .cells 3 (ns u)⟩), (3, ⟨1, true, true, .cells 3 [.agg [iv .i64 s, iv .i64 v, .sl 1 (ints k)]]⟩)]⟩)
   (fun i => k.length - i.1) ⟨1, Nat.le_refl _, hk0⟩ (by have : (∀ j, j < 1 → gi k j = gi k 0) = True := by simp
                                                         simp only [this, decide_true]; exact (by first | rfl | simp)) ?_
  rintro ⟨i, hi, hi2⟩
  refine wk0 ?_
  refine condK.dec (fun h1 => ?_) (fun h1 => ?_)
  ·refine wk0 ?_
   refine guardK.dec (fun h2 => ?_) (fun h2 => ?_)
   ·refine wk0 ?_
    refine vcalm (by kernel_rfl) ?_
    refine wk0 ?_
    have he : (∀ j, j < i + 1 → gi k j = gi k 0) = (gi k i = gi k 0) := by
     refine propext ⟨fun h => h i (by omega), fun h j hj => ?_⟩
     by_cases hj2 : j = i
     ·subst hj2; exact h
     ·exact h2 j (by omega)
    refine ⟨⟨i + 1, by omega, by omega⟩, by simp only [he, decide_false]; exact (by first | rfl | simp), by simp only; omega⟩
   ·refine wk0 ?_
    refine vcalm (by kernel_rfl) ?_
    refine wk0 ?_
    have he : (∀ j, j < i + 1 → gi k j = gi k 0) = False := by
     refine propext ⟨fun h => h2 fun j hj => h j (by omega), False.elim⟩
    refine ⟨⟨i + 1, by omega, by omega⟩, by simp only [he, decide_false]; exact (by first | rfl | simp), by simp only; omega⟩
  ·have hik : i = k.length := by omega
   subst hik
   refine wk0 ?_
   refine condK.dec (fun h2 => ?_) (fun h2 => ?_)
   ·have hp : plc u ⟨s, v, k⟩ = (u, gi k 0) := by
     have hall : ∀ x ∈ k, x = gi k 0 := by
      intro x hx
      obtain ⟨j, hj, rfl⟩ := List.mem_iff_getElem.mp hx
      have := h2 j hj
      rw [← this]
      simp [gi, List.getD, hj]
     unfold plc
     rw [if_pos ⟨h, hall⟩]
    refine wk0 ?_
    refine vcalm (by kernel_rfl) ?_
    refine wk1 @hp ?_
    simp [VC]
   ·have hnp : ¬ (s ≠ -1 ∧ ∀ x ∈ k, x = gi k 0) := fun hh => h2 fun j hj => hh.2 _ (gi_mem hj)
    refine wk0 ?_
    refine run_loop [0, 3, 8] [0, 3] (α := {i : Nat // i ≤ u.length ∧ ∀ j, j < i → gn u j ≠ ⟨s, v, k⟩}) (fun i => ⟨[(0, .hs ⟨0, 0⟩ 0 u.length), (3, .hp ⟨3, 1⟩ 0 0), (8, iv .i64 i.1)], [(0, ⟨0, true, false, .cells 3 (ns u)⟩), (3, ⟨1, true, true, .cells 3 [.agg [iv .i64 s, iv .i64 v, .sl 1 (ints k)]]⟩)]⟩)
     (fun i => u.length - i.1) ⟨0, Nat.zero_le _, fun _ h => absurd h (Nat.not_lt_zero _)⟩ (by first | rfl | simp) ?_
    rintro ⟨i, hi, hq⟩
    refine wk0 ?_
    refine condK.dec (fun h => ?_) (fun h => ?_)
    ·refine wk0 ?_
     have hc := c_SameNode (gn u i) ⟨s, v, k⟩ (hu _ (gn_mem (by omega)))
     refine callI (hc) ?_
     refine wk0 ?_
     refine vcalm (by kernel_rfl) ?_
     refine condK.dec (fun h2 => ?_) (fun h2 => ?_)
     ·have hp : plc u ⟨s, v, k⟩ = (u, (i : Int)) := by
       unfold plc
       rw [if_neg hnp, if_pos (by rw [← h2]; exact gn_mem (by omega)), idx_of (i := i) (by omega) h2 hq]
      refine wk1 @hp ?_
      simp [VC]
     ·refine wk0 ?_
      refine ⟨⟨i + 1, by omega, fun j hj => ?_⟩, (by first | rfl | simp), by simp only; omega⟩
      by_cases hj2 : j = i
      ·subst hj2; exact h2
      ·exact hq j (by omega)
    ·have hp : plc u ⟨s, v, k⟩ = (u ++ [⟨s, v, k⟩], (u.length : Int)) := by
      unfold plc
      rw [if_neg hnp, if_neg]
      intro hm
      obtain ⟨j, hj, he⟩ := List.mem_iff_getElem.mp hm
      exact hq j (by omega) (by simpa [gn, List.getD, hj] using he)
     refine wk1 @hp ?_
     exact ⟨⟨Nat.le_refl _, by rw [List.take_of_length_le (by simp)]⟩, by simp [VC]⟩
 ·have hnp : ¬ (s ≠ -1 ∧ ∀ x ∈ k, x = gi k 0) := fun hh => h hh.1
  refine wk0 ?_
  refine run_loop [0, 3, 8] [0, 3] (α := {i : Nat // i ≤ u.length ∧ ∀ j, j < i → gn u j ≠ ⟨s, v, k⟩}) (fun i => ⟨[(0, .hs ⟨0, 0⟩ 0 u.length), (3, .hp ⟨3, 1⟩ 0 0), (8, iv .i64 i.1)], [(0, ⟨0, true, false, .cells 3 (ns u)⟩), (3, ⟨1, true, true, .cells 3 [.agg [iv .i64 s, iv .i64 v, .sl 1 (ints k)]]⟩)]⟩)
   (fun i => u.length - i.1) ⟨0, Nat.zero_le _, fun _ h => absurd h (Nat.not_lt_zero _)⟩ (by first | rfl | simp) ?_
  rintro ⟨i, hi, hq⟩
  refine wk0 ?_
  refine condK.dec (fun h => ?_) (fun h => ?_)
  ·refine wk0 ?_
   have hc := c_SameNode (gn u i) ⟨s, v, k⟩ (hu _ (gn_mem (by omega)))
   refine callI (hc) ?_
   refine wk0 ?_
   refine vcalm (by kernel_rfl) ?_
   refine condK.dec (fun h2 => ?_) (fun h2 => ?_)
   ·have hp : plc u ⟨s, v, k⟩ = (u, (i : Int)) := by
     unfold plc
     rw [if_neg hnp, if_pos (by rw [← h2]; exact gn_mem (by omega)), idx_of (i := i) (by omega) h2 hq]
    refine wk1 @hp ?_
    simp [VC]
   ·refine wk0 ?_
    refine ⟨⟨i + 1, by omega, fun j hj => ?_⟩, (by first | rfl | simp), by simp only; omega⟩
    by_cases hj2 : j = i
    ·subst hj2; exact h2
    ·exact hq j (by omega)
  ·have hp : plc u ⟨s, v, k⟩ = (u ++ [⟨s, v, k⟩], (u.length : Int)) := by
    unfold plc
    rw [if_neg hnp, if_neg]
    intro hm
    obtain ⟨j, hj, he⟩ := List.mem_iff_getElem.mp hm
    exact hq j (by omega) (by simpa [gn, List.getD, hj] using he)
   refine wk1 @hp ?_
   exact ⟨⟨Nat.le_refl _, by rw [List.take_of_length_le (by simp)]⟩, by simp [VC]⟩
end Go.Proofs.YteipiejlljnclaaGreatDoor
end
section
namespace Go.Proofs.YteipiejlljnclaaGreatDoor
open Go Go.AL
attribute [local irreducible] run opK opD callK
theorem site_br {t : Tr} (h : siteOf t ≠ -1) : ∃ s ks, t = .br s ks := by
 cases t with
 | lf v => exact absurd rfl h
 | br s ks => exact ⟨s, ks, rfl⟩
theorem nd_site (l : List Tr) (t : Tr) : (nd l t).site = siteOf t := rfl
theorem same_ix {l ks : List Tr} (hk : ∀ k ∈ ks, k ∈ l) (h : ∀ x ∈ ks.map fun k => (ix l k : Int), x = gi (ks.map fun k => (ix l k : Int)) 0) : same ks := by
 cases ks with
 | nil => trivial
 | cons a ks =>
  intro x hx
  have := h (ix l x : Int) (List.mem_map.mpr ⟨x, by simp [hx], rfl⟩)
  simp [gi] at this
  exact ix_inj (hk x (by simp [hx])) (hk a (by simp)) (by omega)
theorem mem_nds {l : List Tr} {t : Tr} (hc : Clo l) (hk : ∀ k ∈ kidsOf t, k ∈ l) : nd l t ∈ nds l ↔ t ∈ l := by
 constructor
 ·intro h
  obtain ⟨s, hs, he⟩ := List.mem_map.mp h
  rw [nd_inj (hc.kids hs) hk he] at hs
  exact hs
 ·intro h; exact List.mem_map.mpr ⟨t, h, rfl⟩
theorem idx_nds {l : List Tr} {t : Tr} (hc : Clo l) (ht : t ∈ l) : (nds l).idxOf (nd l t) = ix l t := by
 have hlt := ix_lt ht
 apply idx_of (by simpa using hlt)
 ·simp [gn, List.getD, nds, hlt, get_ix ht]
 ·intro j hj he
  have hjl : j < l.length := by omega
  simp [gn, List.getD, nds, hjl] at he
  have he2 := nd_inj (hc.kids (List.getElem_mem hjl)) (hc.kids ht) he
  have := List.not_of_lt_findIdx (p := fun x => x == t) (xs := l) (i := j) (by simpa [ix, List.idxOf] using hj)
  simp [he2] at this
def Rd (t : Tr) : Prop := ∀ s ks, t = .br s ks → ¬ same ks
theorem Ok.rd {w : Nat → Nat} {t : Tr} (h : Ok w t) : Rd t := by
 intro s ks e
 subst e
 cases h with
 | br _ _ _ _ hr _ _ => exact hr
theorem plc_nd {l : List Tr} {t : Tr} (hc : Clo l) (hk : ∀ k ∈ kidsOf t, k ∈ l) (hr : Rd t) : plc (nds l) (nd l t) = (nds (insT l t), (ix (insT l t) t : Int)) := by
 unfold plc
 rw [if_neg]
 ·by_cases h : t ∈ l
  ·rw [if_pos ((mem_nds hc hk).mpr h), idx_nds hc h]
   simp [insT, h]
  ·rw [if_neg (fun h' => h ((mem_nds hc hk).mp h'))]
   simp only [insT, if_neg h, nds_snoc hc hk, ix_snoc h, nds_length]
 ·rintro ⟨h1, h2⟩
  obtain ⟨s, ks, rfl⟩ := site_br h1
  exact hr s ks rfl (same_ix (l := l) hk h2)
noncomputable def insM (l : List Tr) (s : Nat) (ks : List Tr) : List Tr := open Classical in if same ks then l else insT l (.br s ks)
theorem plc_br {l : List Tr} {s : Nat} {ks : List Tr} (hc : Clo l) (hk : ∀ k ∈ ks, k ∈ l) (h0 : ks ≠ []) : plc (nds l) (nd l (.br s ks)) = (nds (insM l s ks), (ix (insM l s ks) (mkbr s ks) : Int)) := by
 by_cases h : same ks
 ·unfold plc
  rw [if_pos]
  ·simp only [insM, if_pos h, mkbr, nd, kidsOf]
   cases ks with
   | nil => exact absurd rfl h0
   | cons a ks => simp [gi]
  ·refine ⟨by simp only [nd, siteOf]; omega, ?_⟩
   cases ks with
   | nil => exact absurd rfl h0
   | cons a ks =>
    intro x hx
    obtain ⟨y, hy, rfl⟩ := List.mem_map.mp hx
    simp only [kidsOf] at hy
    have : y = a := by
     rcases List.mem_cons.mp hy with h' | h'
     ·exact h'
     ·exact h y h'
    rw [this]; simp [nd, kidsOf, gi]
 ·have := plc_nd (t := .br s ks) hc hk (fun s' ks' e => by cases e; exact h)
  rw [this]; simp [insM, mkbr, h]
noncomputable def atA (ts ss : List Tr) (i : Nat) : List Int := ((ss.take i).map fun x => (ix (insL ts (ss.take i)) x : Int)) ++ List.replicate (ss.length - i) 0
theorem atA_len (ts ss : List Tr) {i : Nat} (h : i ≤ ss.length) : (atA ts ss i).length = ss.length := by simp [atA]; omega
theorem atA_zero (ts ss : List Tr) : atA ts ss 0 = List.replicate ss.length 0 := by simp [atA]
theorem atA_all (ts ss : List Tr) : atA ts ss ss.length = ss.map fun x => (ix (insL ts ss) x : Int) := by simp [atA]
theorem atA_get {ts ss : List Tr} {i : Nat} {k : Tr} (hk : k ∈ ss.take i) : gi (atA ts ss i) (ix ss k) = (ix (insL ts (ss.take i)) k : Int) := by
 have h1 : ix (ss.take i) k = ix ss k := (ix_pre (List.take_prefix i ss) hk).symm
 have h2 := ix_lt hk
 rw [h1] at h2
 have h3 := get_ix hk
 simp only [h1] at h3
 simp only [gi, List.getD, atA]
 rw [List.getElem?_append_left (by simpa using h2), List.getElem?_map, List.getElem?_eq_getElem h2, h3]
 rfl
theorem atA_set {ts ss : List Tr} {i : Nat} (h : i < ss.length) : (atA ts ss i).set i (ix (insL ts (ss.take (i + 1))) ss[i] : Int) = atA ts ss (i + 1) := by
 have hp : insL ts (ss.take i) <+: insL ts (ss.take (i + 1)) := by
  rw [List.take_succ_eq_append_getElem h, insL_snoc]; exact ins_pre _ _
 have hm : (ss.take i).map (fun x => (ix (insL ts (ss.take i)) x : Int)) = (ss.take i).map (fun x => (ix (insL ts (ss.take (i + 1))) x : Int)) :=
  List.map_congr_left fun x hx => by rw [ix_pre hp (mem_insL hx)]
 have hl : ((ss.take i).map (fun x => (ix (insL ts (ss.take (i + 1))) x : Int))).length = i := by simp; omega
 unfold atA
 rw [hm, List.set_append_right _ _ (by rw [hl]; exact Nat.le_refl _), hl, Nat.sub_self, show ss.length - i = (ss.length - (i + 1)) + 1 by omega, List.replicate_succ, List.set_cons_zero]
 conv => rhs; rw [show ss.take (i + 1) = ss.take i ++ [ss[i]] from List.take_succ_eq_append_getElem h]
 rw [List.map_append, List.append_assoc]
 rw [show ss.take (i + 1) = ss.take i ++ [ss[i]] from List.take_succ_eq_append_getElem h]
 rfl
end Go.Proofs.YteipiejlljnclaaGreatDoor
end
