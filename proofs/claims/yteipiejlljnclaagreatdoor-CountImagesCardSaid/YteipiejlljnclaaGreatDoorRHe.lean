/- The program's check of a diagram (diagram): leaves, branches, shapes, graphs. Conditions stand in each. -/
import Derived.Test.YteipiejlljnclaaGreatDoorRHd
import Derived.Test.YteipiejlljnclaaGreatDoorRGe
set_option linter.unusedVariables false
set_option linter.unusedSimpArgs false
set_option maxRecDepth 10000
set_option maxHeartbeats 16000000
section
namespace Go.Proofs.YteipiejlljnclaaGreatDoor
open Go Go.AL
attribute [local irreducible] run opK opD callK
attribute [local simp] keep keepEnv keepRows keepAV keepPl keepBody keepElems keepElem keepCells lget inL normG
theorem c_leafL (U : List Tr) (v : Int) (h1 : -1073741824 ≤ v) (h2 : v ≤ 1073741824) : CT 229 [ndat (nd U (.lf v))] { val := bl true, args := [ndat (nd U (.lf v))] } := by
 have hn : nd U (.lf v) = ⟨-1, v, []⟩ := rfl
 rw [hn]
 refine Ctr.intro ⟨Tryz.f229, _, Tryz.call229, Tryz.func229, fold_body (by rfl) (by kernel_rfl), (by simp [Tryz.ntmps229]), (by simp), (by kernel_rfl), ?_⟩
 refine wks ?_
 refine wk0 ?_
 simp [VC, ints, h2]
theorem c_leafB (U : List Tr) (s : Nat) (ks : List Tr) : CT 229 [ndat (nd U (.br s ks))] { val := bl false, args := [ndat (nd U (.br s ks))] } := by
 have hn : nd U (.br s ks) = ⟨s, 0, ks.map fun k => (ix U k : Int)⟩ := rfl
 rw [hn]
 generalize (ks.map fun k => (ix U k : Int)) = kk
 refine Ctr.intro ⟨Tryz.f229, _, Tryz.call229, Tryz.func229, fold_body (by rfl) (by kernel_rfl), (by simp [Tryz.ntmps229]), (by simp), (by kernel_rfl), ?_⟩
 refine wks ?_
 refine wk1 @decide_false ?_
 simp [VC]
def shE (w : Nat → Nat) (l : List Nat) : List (AV × AV) := l.map fun s => (.sc (.int .i64 (s : Nat)), .sc (.int .i64 (w s : Nat)))
def shA (l : List Nat) (s : Nat) : List Nat := if s ∈ l then l else l ++ [s]
def shS (l : List Nat) : List Tr → List Nat
 | [] => l
 | .lf _ :: E => shS l E
 | .br s _ :: E => shS (shA l s) E
theorem shS_lf {v : Int} : ∀ {E : List Tr} {l : List Nat}, shS l (E ++ [.lf v]) = shS l E
 | [], l => rfl
 | .lf _ :: E, l => by simp only [List.cons_append, shS]; exact shS_lf
 | .br s _ :: E, l => by simp only [List.cons_append, shS]; exact shS_lf
theorem shS_br {s : Nat} {ks : List Tr} : ∀ {E : List Tr} {l : List Nat}, shS l (E ++ [.br s ks]) = shA (shS l E) s
 | [], l => rfl
 | .lf _ :: E, l => by simp only [List.cons_append, shS]; exact shS_br
 | .br s _ :: E, l => by simp only [List.cons_append, shS]; exact shS_br
theorem key_int (a b : Nat) : keyEq (.sc (.int .i64 (a : Nat))) (.sc (.int .i64 (b : Nat))) = decide (a = b) := by
 show ((a : Int) == (b : Int)) = _
 by_cases h : a = b
 ·simp [h]
 ·simp [h]; omega
theorem mget_sh (w : Nat → Nat) (s : Nat) : ∀ l : List Nat, mget (.sc (.int .i64 (s : Nat))) (shE w l) = if s ∈ l then some (.sc (.int .i64 (w s : Nat))) else none
 | [] => rfl
 | a :: l => by
  have ih := mget_sh w s l
  simp only [shE, List.map_cons, mget, key_int] at ih ⊢
  by_cases h : s = a
  ·subst h; simp
  ·simp only [h, decide_false, Bool.false_eq_true, if_false, List.mem_cons, false_or]; exact ih
theorem mset_sh (w : Nat → Nat) (s : Nat) : ∀ l : List Nat, mset (.sc (.int .i64 (s : Nat))) (.sc (.int .i64 (w s : Nat))) (shE w l) = shE w (shA l s)
 | [] => rfl
 | a :: l => by
  have ih := mset_sh w s l
  simp only [shE, List.map_cons, mset, key_int, shA] at ih ⊢
  by_cases h : s = a
  ·subst h; simp
  ·simp only [h, decide_false, Bool.false_eq_true, if_false, List.mem_cons, false_or]
   rw [ih]
   split <;> simp
theorem c_Shapes (w : Nat → Nat) (E : List Tr) (l : List Nat) (hE : Tab E) (hok : ∀ t ∈ E, Ok w t) : CT 104 [lsd E, .mp (.map (.int .i64) (shE w l))] { val := bl true, args := [lsd E, .mp (.map (.int .i64) (shE w (shS l E)))] } := by
 have htl := hE.len
 have hnl := nds_length E
 refine Ctr.intro ⟨Tryz.f104, _, Tryz.call104, Tryz.func104, fold_body (by rfl) (by kernel_rfl), (by simp [Tryz.ntmps104]), (by simp), (by kernel_rfl), ?_⟩
 refine wks ?_
 refine wk0 ?_
 refine run_loop [0, 1, 9, 10, 11] [1] (α := {i : Nat // i ≤ E.length})
  (fun i => ⟨[(0, .sl 3 (ns (nds E))), (1, .hm ⟨1, 0⟩), (9, .sl 3 (ns (nds E))), (10, iv .i64 E.length), (11, iv .i64 i.1)], [(1, ⟨0, true, false, .map (.int .i64) (shE w (shS l (E.take i.1)))⟩)]⟩)
  (fun i => E.length - i.1) ⟨0, Nat.zero_le _⟩ (by first | rfl | simp) ?_
 rintro ⟨i, hi⟩
 refine wk0 ?_
 refine condK.dec (fun h => ?_) (fun h => ?_)
 ·have hi2 : i < E.length := by omega
  obtain ⟨t, ht⟩ : ∃ t, t = E[i] := ⟨_, rfl⟩
  have hg : gn (nds E) i = nd E t := by rw [gn_nds hi2, ← ht]
  have htk : E.take (i + 1) = E.take i ++ [t] := by rw [List.take_succ_eq_append_getElem hi2, ← ht]
  have hto := hok t (by rw [ht]; exact List.getElem_mem _)
  cases t with
  | lf v =>
   have hn : nd E (.lf v) = ⟨-1, v, []⟩ := rfl
   rw [hn] at hg
   refine wk1 @hg ?_
   exact ⟨⟨i + 1, by omega⟩, by simp only [htk, shS_lf]; exact (by first | rfl | simp), by simp only; omega⟩
  | br s ks =>
   have hn : nd E (.br s ks) = ⟨s, 0, ks.map fun k => (ix E k : Int)⟩ := rfl
   rw [hn] at hg
   obtain ⟨hw, hw1, hw2⟩ : ks.length = w s ∧ 1 ≤ w s ∧ w s ≤ 16 := by
    cases hto with
    | br _ hw h1 h2 _ _ _ => exact ⟨hw, h1, h2⟩
   obtain ⟨kk, hkk⟩ : ∃ kk : List Int, kk = ks.map fun k => (ix E k : Int) := ⟨_, rfl⟩
   have hkl : kk.length = w s := by rw [hkk, List.length_map, hw]
   rw [← hkk] at hg
   have hmg := mget_sh w s (shS l (E.take i))
   have hms := mset_sh w s (shS l (E.take i))
   by_cases hm : s ∈ shS l (E.take i)
   ·rw [if_pos hm] at hmg
    refine wk6 @hg @hmg @hkl @hms @not_true_eq_false @decide_false ?_
    exact ⟨⟨i + 1, by omega⟩, by simp only [htk, shS_br]; exact (by first | rfl | simp), by simp only; omega⟩
   ·rw [if_neg hm] at hmg
    refine wk6 @hg @hmg @hkl @hms @not_true_eq_false @decide_false ?_
    exact ⟨⟨i + 1, by omega⟩, by simp only [htk, shS_br]; exact (by first | rfl | simp), by simp only; omega⟩
 ·have hie : i = E.length := by omega
  have e : E.take i = E := by rw [hie, List.take_length]
  rw [e]
  refine wk0 ?_
  simp [memOut, lget, VC, packOut, packKeys, cellsOf, cellKeys, disjB, inL, AV.isAgg, cellOut, cellsOut]
theorem c_branch (w : Nat → Nat) (E : List Tr) (i s : Nat) (ks : List Tr) (hE : Tab E) (hi : i < E.length) (ht : E[i] = .br s ks) (hok : ∀ t ∈ E, Ok w t) : CT 230 [lsd E, .data (iv .i64 (i : Nat))] { val := bl true, args := [lsd E, .data (iv .i64 (i : Nat))] } := by
 have htl := hE.len
 have hnl := nds_length E
 have hto := hok _ (List.getElem_mem hi)
 rw [ht] at hto
 obtain ⟨hs64, hw, hw1, hw2, hk, ho⟩ : s < 64 ∧ ks.length = w s ∧ 1 ≤ w s ∧ w s ≤ 16 ∧ (∀ k ∈ ks, Ok w k) ∧ (∀ k ∈ ks, siteOf k < 0 ∨ (s : Int) < siteOf k) := by
  cases hto with
  | br a b c d _ e f => exact ⟨a, b, c, d, e, f⟩
 have hkin : ∀ k ∈ ks, k ∈ E.take i := fun k hk => by
  have := hE.clo.at hi
  rw [ht] at this
  exact this k hk
 obtain ⟨kk, hkk⟩ : ∃ kk : List Int, kk = ks.map fun k => (ix E k : Int) := ⟨_, rfl⟩
 have hkl : kk.length = ks.length := by rw [hkk, List.length_map]
 have hg : gn (nds E) i = ⟨s, 0, kk⟩ := by rw [gn_nds hi, ht, hkk]; rfl
 refine Ctr.intro ⟨Tryz.f230, _, Tryz.call230, Tryz.func230, fold_body (by rfl) (by kernel_rfl), (by simp [Tryz.ntmps230]), (by simp), (by kernel_rfl), ?_⟩
 refine wks ?_
 refine wk3 @hg @decide_false @not_true_eq_false ?_
 refine run_loop [0, 1, 5, 38, 39, 40] [5] (α := {k : Nat // k ≤ kk.length})
  (fun k => ⟨[(0, .sl 3 (ns (nds E))), (1, iv .i64 (i : Nat)), (5, .hp ⟨5, 1⟩ 0 0), (38, .sl 1 (ints kk)), (39, iv .i64 kk.length), (40, iv .i64 k.1)], [(5, ⟨1, true, true, .cells 3 [.agg [iv .i64 (s : Nat), iv .i64 0, .sl 1 (ints kk)]]⟩)]⟩)
  (fun k => kk.length - k.1) ⟨0, Nat.zero_le _⟩ (by first | rfl | simp) ?_
 rintro ⟨k, hkb⟩
 refine wk0 ?_
 refine condK.dec (fun h => ?_) (fun h => ?_)
 ·have hk2 : k < ks.length := by omega
  obtain ⟨c, hc⟩ : ∃ c, c = ks[k] := ⟨_, rfl⟩
  have hck : c ∈ ks := by rw [hc]; exact List.getElem_mem _
  have hct := hkin c hck
  obtain ⟨j, hj⟩ : ∃ j, j = ix E c := ⟨_, rfl⟩
  have hji : j < i := by
   rw [hj, ix_pre (List.take_prefix i E) hct]
   have := ix_lt hct
   rw [List.length_take] at this; omega
  have e1 : gi kk k = (j : Int) := by rw [hj, hkk, hc]; simp [gi, List.getD, hk2]
  have hcE : c ∈ E := List.mem_of_mem_take hct
  have hgj : gn (nds E) j = nd E c := by subst hj; rw [gn_nds (ix_lt hcE), get_ix hcE]
  have hso := ho c hck
  refine wk2 @e1 @hgj ?_
  refine guardK.dec (fun h3 => ?_) (fun h3 => ?_)
  ·refine wk2 @e1 @hgj ?_
   refine vcalm (by kernel_rfl) ?_
   refine wk2 @e1 @hgj ?_
   exact ⟨⟨k + 1, by omega⟩, (by first | rfl | simp), by simp only; omega⟩
  ·refine wk2 @e1 @hgj ?_
   refine vcalm (by kernel_rfl) ?_
   refine wk2 @e1 @hgj ?_
   exact ⟨⟨k + 1, by omega⟩, (by first | rfl | simp), by simp only; omega⟩
 ·refine wk0 ?_
  simp [VC]
theorem c_isGraph (w : Nat → Nat) (E : List Tr) (hE : Tab E) (hok : ∀ t ∈ E, Ok w t) (h0 : 0 < E.length) : CT 181 [lsd E] { val := bl true, args := [lsd E] } := by
 have htl := hE.len
 have hnl := nds_length E
 refine Ctr.intro ⟨Tryz.f181, _, Tryz.call181, Tryz.func181, fold_body (by rfl) (by kernel_rfl), (by simp [Tryz.ntmps181]), (by simp), (by kernel_rfl), ?_⟩
 refine wks ?_
 refine wk0 ?_
 refine run_loop [0, 5, 6, 7] [] (α := {i : Nat // i ≤ E.length})
  (fun i => ⟨[(0, .sl 3 (ns (nds E))), (5, .sl 3 (ns (nds E))), (6, iv .i64 E.length), (7, iv .i64 i.1)], []⟩)
  (fun i => E.length - i.1) ⟨0, Nat.zero_le _⟩ (by first | rfl | simp) ?_
 rintro ⟨i, hi⟩
 refine wk0 ?_
 refine condK.dec (fun h => ?_) (fun h => ?_)
 ·have hi2 : i < E.length := by omega
  obtain ⟨t, ht⟩ : ∃ t, t = E[i] := ⟨_, rfl⟩
  have hg : gn (nds E) i = nd E t := by rw [gn_nds hi2, ← ht]
  have hto := hok t (by rw [ht]; exact List.getElem_mem _)
  cases t with
  | lf v =>
   have hcl : CT 229 [ndat (nd E (.lf v))] { val := bl true, args := [ndat (nd E (.lf v))] } := by
    cases hto with
    | lf h1 h2 => exact c_leafL E v h1 h2
   refine wk1 @hg ?_
   refine callI (hcl) ?_
   refine wk0 ?_
   exact ⟨⟨i + 1, by omega⟩, (by first | rfl | simp), by simp only; omega⟩
  | br s ks =>
   have hcl := c_leafB E s ks
   have hcb := c_branch w E i s ks hE hi2 ht.symm hok
   refine wk1 @hg ?_
   refine callI (hcl) ?_
   refine wk0 ?_
   refine callI (hcb) ?_
   refine wk0 ?_
   exact ⟨⟨i + 1, by omega⟩, (by first | rfl | simp), by simp only; omega⟩
 ·have hcs := c_Shapes w E [] hE hok
  refine wk0 ?_
  refine callI (hcs) ?_
  refine wk0 ?_
  simp [VC]
theorem enum_get {t : Tr} : (enum t []).getLast? = some t := enum_last t (by simp)
theorem c_Reduce (w : Nat → Nat) (t : Tr) (hok : Ok w t) (hsz : t.sz < 100) (hsm : ∀ x ∈ enum t [], SmT x) : CT 116 [lsd (enum t [])] { val := .tup [.agg [.sl 3 (ns (nds (enum t [])))], iv .i64 0], args := [lsd (enum t [])] } := by
 obtain ⟨hT, hR⟩ := enum_tab hok (by omega)
 have hE := hok.enum (l := []) (by simp)
 have hel := enum_len t []
 simp only [List.length_nil, Nat.zero_add] at hel
 have hmem := mem_enum t []
 have h0 : 0 < (enum t []).length := List.length_pos_of_mem hmem
 have hg := c_isGraph w (enum t []) hT hE h0
 have hr := c_Root [] (enum t []) t ⟨Clo.nil, List.nodup_nil, by simp, by simp⟩ hT hR (by simp) hsm (by simp; omega) enum_get
 rw [insL_self hT.nod] at hr
 have hx := c_Export (enum t []) t hT hmem (by omega) (by omega)
 refine Ctr.intro ⟨Tryz.f116, _, Tryz.call116, Tryz.func116, fold_body (by rfl) (by kernel_rfl), (by simp [Tryz.ntmps116]), (by simp), (by kernel_rfl), ?_⟩
 refine wks ?_
 refine wk0 ?_
 refine callI (hg) ?_
 refine wk0 ?_
 refine callI (c_TNew) ?_
 refine wk0 ?_
 refine callI (hr) ?_
 refine wk0 ?_
 refine callI (hx) ?_
 refine wk0 ?_
 exact ⟨Or.inl (by simp [cleanL, cleanCell]), by simp [VC, cellKeys, disjB]⟩
end Go.Proofs.YteipiejlljnclaaGreatDoor
end
section
namespace Go.Proofs.YteipiejlljnclaaGreatDoor
open Go Go.AL
attribute [local irreducible] run opK opD callK
attribute [local simp] keep keepEnv keepRows keepAV keepPl keepBody keepElems keepElem keepCells lget inL normG
theorem c_EqI (a b : List Int) (ha : a.length < 4611686018427387904) : CT 118 [idat a, idat b] { val := bl (decide (a = b)), args := [idat a, idat b] } := by
 refine Ctr.intro ⟨Tryz.f118, _, Tryz.call118, Tryz.func118, fold_body (by rfl) (by kernel_rfl), (by simp [Tryz.ntmps118]), (by simp), (by kernel_rfl), ?_⟩
 refine wks ?_
 refine wk0 ?_
 refine condK.dec (fun h => ?_) (fun h => ?_)
 ·have hne : a ≠ b := fun e => h (by rw [e])
  refine wk2 @hne @decide_false ?_
  trivial
 ·have hl : a.length = b.length := by omega
  refine wk0 ?_
  refine run_loop [0, 1, 12, 13] [] (α := {i : Nat // i ≤ a.length ∧ ∀ j, j < i → gi a j = gi b j}) (fun i => ⟨[(0, .sl 1 (ints a)), (1, .sl 1 (ints b)), (12, iv .i64 a.length), (13, iv .i64 i.1)], []⟩)
   (fun i => a.length - i.1) ⟨0, Nat.zero_le _, fun _ h => absurd h (Nat.not_lt_zero _)⟩ (by first | rfl | simp) ?_
  rintro ⟨i, hi, hq⟩
  refine wk0 ?_
  refine condK.dec (fun h => ?_) (fun h => ?_)
  ·refine wk0 ?_
   refine vcalm (by kernel_rfl) ?_
   refine condK.dec (fun h2 => ?_) (fun h2 => ?_)
   ·have hne : a ≠ b := fun e => h2 (by rw [e])
    refine wk2 @hne @decide_false ?_
    trivial
   ·refine wk0 ?_
    refine ⟨⟨i + 1, by omega, fun j hj => ?_⟩, (by first | rfl | simp), by simp only; omega⟩
    by_cases hj2 : j = i
    ·subst hj2; exact Classical.not_not.1 h2
    ·exact hq j (by omega)
  ·have he : a = b := gi_ext hl fun j hj => hq j (by omega)
   refine wk1 @he ?_
   trivial
theorem c_same (a b : Nd) (ha : a.kids.length < 4611686018427387904) : CT 117 [ndat a, ndat b] { val := bl (decide (a = b)), args := [ndat a, ndat b] } := by
 obtain ⟨s, v, k⟩ := a
 obtain ⟨s', v', k'⟩ := b
 refine Ctr.intro ⟨Tryz.f117, _, Tryz.call117, Tryz.func117, fold_body (by rfl) (by kernel_rfl), (by simp [Tryz.ntmps117]), (by simp), (by kernel_rfl), ?_⟩
 refine wks ?_
 refine wk0 ?_
 refine guardK.dec (fun h => ?_) (fun h => ?_)
 ·subst h
  refine wk0 ?_
  refine guardK.dec (fun h => ?_) (fun h => ?_)
  ·subst h
   refine wk0 ?_
   refine callI (c_EqI k k' ha) ?_
   refine wk0 ?_
   by_cases h : k = k'
   ·subst h
    refine wk0 ?_
    trivial
   ·have hne : (⟨s, v, k⟩ : Nd) ≠ ⟨s, v, k'⟩ := fun e => h (by simpa using e)
    refine wk3 @h @hne @decide_false ?_
    trivial
  ·have hne : (⟨s, v, k⟩ : Nd) ≠ ⟨s, v', k'⟩ := fun e => h (by simp at e; exact e.1)
   refine wk3 @h @hne @decide_false ?_
   trivial
 ·have hne : (⟨s, v, k⟩ : Nd) ≠ ⟨s', v', k'⟩ := fun e => h (by simp at e; exact e.1)
  refine wk3 @h @hne @decide_false ?_
  trivial
theorem c_EqF (a : List Nd) (ha : a.length < 4611686018427387904) (hk : ∀ n ∈ a, n.kids.length < 4611686018427387904) : CT 119 [.data (.sl 3 (ns a)), .data (.sl 3 (ns a)), .data (.sc (.func (.func 117) #[] #[]))]
  {val := bl true, args := [.data (.sl 3 (ns a)), .data (.sl 3 (ns a)), .data (.sc (.func (.func 117) #[] #[]))] } := by
 refine Ctr.intro ⟨Tryz.f119, _, Tryz.call119, Tryz.func119, fold_body (by rfl) (by kernel_rfl), (by simp [Tryz.ntmps119]), (by simp), (by kernel_rfl), ?_⟩
 refine wks ?_
 refine wk2 @not_true_eq_false @decide_false ?_
 refine run_loop [0, 1, 2, 15, 16, 17] [] (α := {i : Nat // i ≤ a.length}) (fun i => ⟨[(0, .sl 3 (ns a)), (1, .sl 3 (ns a)), (2, .sc (.func (.func 117) #[] #[])), (15, .sl 3 (ns a)), (16, iv .i64 a.length), (17, iv .i64 i.1)], []⟩)
  (fun i => a.length - i.1) ⟨0, Nat.zero_le _⟩ (by first | rfl | simp) ?_
 rintro ⟨i, hi⟩
 refine wk0 ?_
 refine condK.dec (fun h => ?_) (fun h => ?_)
 ·have hc := c_same (gn a i) (gn a i) (hk _ (gn_mem (by omega)))
  rw [decide_eq_true rfl] at hc
  refine wk0 ?_
  refine callI (hc) ?_
  refine wk0 ?_
  exact ⟨⟨i + 1, by omega⟩, (by first | rfl | simp), by simp only; omega⟩
 ·refine wk0 ?_
  simp [VC]
theorem c_Validate (w : Nat → Nat) (t : Tr) (hok : Ok w t) (hsz : t.sz < 100) (hsm : ∀ x ∈ enum t [], SmT x) : CT 62 [dgt (enum t [])] { val := iv .i64 0, args := [dgt (enum t [])] } := by
 have hr := c_Reduce w t hok hsz hsm
 obtain ⟨hT, hR⟩ := enum_tab hok (by omega)
 have hq := c_EqF (nds (enum t [])) (by rw [nds_length]; have := hT.len; omega) (nds_kid hT.kid)
 refine Ctr.intro ⟨Tryz.f62, _, Tryz.call62, Tryz.func62, fold_body (by rfl) (by kernel_rfl), (by simp [Tryz.ntmps62]), (by simp), (by kernel_rfl), ?_⟩
 refine wks ?_
 refine wk0 ?_
 refine callI (hr) ?_
 refine wk2 @not_true_eq_false @decide_false ?_
 refine callI (hq) ?_
 refine wk0 ?_
 simp [VC]
end Go.Proofs.YteipiejlljnclaaGreatDoor
end
