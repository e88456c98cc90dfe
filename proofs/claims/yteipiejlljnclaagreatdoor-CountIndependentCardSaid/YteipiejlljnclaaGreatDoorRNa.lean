/- The program's tables of nodes (graph): the join of two trees. Conditions stand in each. -/
import Derived.Test.YteipiejlljnclaaGreatDoorRKc
import Derived.Test.YteipiejlljnclaaGreatDoorRHg
import Derived.Test.YteipiejlljnclaaGreatDoorRKg
set_option linter.unusedVariables false
set_option linter.unusedSimpArgs false
set_option maxRecDepth 10000
set_option maxHeartbeats 8000000
section
namespace Go.Proofs.YteipiejlljnclaaGreatDoor
open Go Go.AL
noncomputable def me (f : Int → Int → Int) (U : List Tr) (M : List (Tr × Tr)) : List (AV × AV) := M.map fun p => (ab2 (ix U p.1) (ix U p.2), iv .i64 (ix U (J f p.1 p.2) : Nat))
structure MB (f : Int → Int → Int) (U : List Tr) (M : List (Tr × Tr)) : Prop where
 h : ∀ p ∈ M, p.1 ∈ U ∧ p.2 ∈ U ∧ J f p.1 p.2 ∈ U
theorem MB.pre {f : Int → Int → Int} {U V : List Tr} {M : List (Tr × Tr)} (h : MB f U M) (hp : U <+: V) : MB f V M :=
 ⟨fun p hm => have g := h.h p hm; ⟨mem_of_pre hp g.1, mem_of_pre hp g.2.1, mem_of_pre hp g.2.2⟩⟩
theorem me_pre {f : Int → Int → Int} {U V : List Tr} {M : List (Tr × Tr)} (h : MB f U M) (hp : U <+: V) : me f V M = me f U M := by
 unfold me
 refine List.map_congr_left fun p hm => ?_
 obtain ⟨h1, h2, h3⟩ := h.h p hm
 rw [ix_pre hp h1, ix_pre hp h2, ix_pre hp h3]
theorem key_two {U : List Tr} {a b c d : Tr} (ha : a ∈ U) (hb : b ∈ U) (hc : c ∈ U) (hd : d ∈ U) : keyEq (ab2 (ix U a) (ix U b)) (ab2 (ix U c) (ix U d)) = decide ((a, b) = (c, d)) := by
 show (((ix U a : Int) == (ix U c : Int)) && (((ix U b : Int) == (ix U d : Int)) && true)) = _
 by_cases e1 : a = c
 ·by_cases e2 : b = d
  ·subst e1 e2; simp
  ·have : ix U b ≠ ix U d := fun h => e2 (ix_inj hb hd h)
   simp [e1, e2]; omega
 ·have : ix U a ≠ ix U c := fun h => e1 (ix_inj ha hc h)
  have g : ((ix U a : Int) == (ix U c : Int)) = false := by simp; omega
  rw [g]; simp [e1]
theorem mget_me {f : Int → Int → Int} {U : List Tr} {a b : Tr} (ha : a ∈ U) (hb : b ∈ U) : ∀ {M : List (Tr × Tr)}, MB f U M → mget (ab2 (ix U a) (ix U b)) (me f U M) = if (a, b) ∈ M then some (iv .i64 (ix U (J f a b) : Nat)) else none
 | [], _ => rfl
 | p :: M, h => by
  have hp := h.h p (.head _)
  have ih := mget_me (f := f) ha hb (M := M) ⟨fun x hx => h.h x (.tail _ hx)⟩
  unfold me at ih ⊢
  rw [List.map_cons, mget, key_two ha hb hp.1 hp.2.1, ih]
  by_cases e : (a, b) = p
  ·subst e; simp
  ·have e' : ¬ (a, b) = (p.1, p.2) := e
   simp only [e', decide_false, Bool.false_eq_true, if_false, List.mem_cons, e, false_or]
noncomputable def addP (M : List (Tr × Tr)) (p : Tr × Tr) : List (Tr × Tr) := if p ∈ M then M else M ++ [p]
theorem mset_me {f : Int → Int → Int} {U : List Tr} {a b : Tr} (ha : a ∈ U) (hb : b ∈ U) : ∀ {M : List (Tr × Tr)}, MB f U M → mset (ab2 (ix U a) (ix U b)) (iv .i64 (ix U (J f a b) : Nat)) (me f U M) = me f U (addP M (a, b))
 | [], _ => by simp [me, mset, addP]
 | p :: M, h => by
  have hp := h.h p (.head _)
  have ih := mset_me (f := f) ha hb (M := M) ⟨fun x hx => h.h x (.tail _ hx)⟩
  unfold me at ih ⊢
  rw [List.map_cons, mset, key_two ha hb hp.1 hp.2.1, ih]
  by_cases e : (a, b) = p
  ·subst e; simp [addP]
  ·have e' : ¬ (a, b) = (p.1, p.2) := e
   unfold addP
   simp only [e', decide_false, Bool.false_eq_true, if_false, List.mem_cons, e, false_or]
   split <;> simp
theorem MB.add {f : Int → Int → Int} {U : List Tr} {M : List (Tr × Tr)} (h : MB f U M) {a b : Tr} (ha : a ∈ U) (hb : b ∈ U) (hj : J f a b ∈ U) : MB f U (addP M (a, b)) := ⟨fun p hp => by
 unfold addP at hp
 split at hp
 ·exact h.h p hp
 ·rcases List.mem_append.1 hp with hp | hp
  ·exact h.h p hp
  ·rw [List.mem_singleton.1 hp]; exact ⟨ha, hb, hj⟩⟩
theorem kd_in {U : List Tr} (hc : Clo U) {s k : Nat} {t : Tr} (ht : t ∈ U) (hok : Ok wid t) (hk : k < wid s) : kd s k t ∈ U := by
 by_cases e : siteOf t = s
 ·obtain ⟨ks, rfl⟩ := at_site e
  have hwk : ks.length = wid s := by cases hok; assumption
  rw [kd_br, gt_eq (by omega)]
  exact hc.kids ht _ (List.getElem_mem _)
 ·rw [kd_no e]; exact ht
theorem kd_gi (U : List Tr) {s k : Nat} {t : Tr} (e : siteOf t = s) (hok : Ok wid t) (hk : k < wid s) : gi (nd U t).kids k = (ix U (kd s k t) : Int) := by
 obtain ⟨ks, rfl⟩ := at_site e
 have hwk : ks.length = wid s := by cases hok; assumption
 rw [kd_br, gt_eq (by omega)]
 exact gi_kid (t := .br s ks) (by simp only [kidsOf]; omega)
theorem kd_wid (U : List Tr) {s : Nat} {t : Tr} (e : siteOf t = s) (hok : Ok wid t) : (nd U t).kids.length = wid s := by
 obtain ⟨ks, rfl⟩ := at_site e
 have hwk : ks.length = wid s := by cases hok; assumption
 rw [nd_klen]; exact hwk
theorem seq_ex {α : Type} (P : Nat → α → Prop) (S : Nat → α → α → Prop) (x : α) (h0 : P 0 x) : ∀ n, (∀ k y, k < n → P k y → ∃ z, P (k + 1) z ∧ S k y z) → ∃ st : Nat → α, st 0 = x ∧ (∀ k, P (min k n) (st k)) ∧ ∀ k, k < n → S k (st k) (st (k + 1))
 | 0, _ => ⟨fun _ => x, rfl, fun k => by rw [Nat.min_zero]; exact h0, fun k hk => absurd hk (Nat.not_lt_zero k)⟩
 | n + 1, hs => by
  obtain ⟨st, h1, h2, h3⟩ := seq_ex P S x h0 n fun k y hk => hs k y (by omega)
  have hn := h2 n
  rw [Nat.min_self] at hn
  obtain ⟨z, hz1, hz2⟩ := hs n (st n) (by omega) hn
  refine ⟨fun k => if k ≤ n then st k else z, by simp [h1], fun k => ?_, fun k hk => ?_⟩ <;> simp only
  ·by_cases e : k ≤ n
   ·have := h2 k
    rw [Nat.min_eq_left e] at this
    rw [if_pos e, Nat.min_eq_left (by omega)]; exact this
   ·rw [if_neg e, Nat.min_eq_right (by omega)]; exact hz1
  ·by_cases e : k < n
   ·rw [if_pos (by omega), if_pos (by omega)]; exact h3 k e
   ·have : k = n := by omega
    subst this
    rw [if_pos (by omega), if_neg (by omega)]; exact hz2
noncomputable def krow (ks V : List Tr) (n k : Nat) : List Int := (ks.take k).map (fun x => (ix V x : Int)) ++ List.replicate (n - k) 0
theorem krow_len {ks V : List Tr} {n k : Nat} (h : ks.length = n) (hk : k ≤ n) : (krow ks V n k).length = n := by
 simp only [krow, List.length_append, List.length_map, List.length_take, List.length_replicate]; omega
theorem krow_set {ks V V' : List Tr} {n k : Nat} (h : ks.length = n) (hk : k < n) (hv : ∀ x ∈ ks.take k, x ∈ V) (hp : V <+: V') : (krow ks V n k).set k (ix V' (ks[k]'(by omega)) : Int) = krow ks V' n (k + 1) := by
 unfold krow
 have hl : ((ks.take k).map fun x => (ix V x : Int)).length = k := by rw [List.length_map, List.length_take]; omega
 rw [List.set_append_right _ _ (by omega), hl, Nat.sub_self, show n - k = (n - (k + 1)) + 1 by omega, List.replicate_succ, List.set_cons_zero, List.take_succ_eq_append_getElem (by omega : k < ks.length), List.map_append, List.append_assoc]
 congr 1
 exact List.map_congr_left fun x hx => by rw [ix_pre hp (hv x hx)]
theorem krow_all {ks V : List Tr} {n : Nat} (h : ks.length = n) : krow ks V n n = ks.map fun x => (ix V x : Int) := by
 unfold krow
 rw [List.take_of_length_le (by omega), Nat.sub_self]; simp
def JLF (f : Int → Int → Int) (fid : Nat) : Prop := ∀ (T T2 : List Nd) (E E2 : List (AV × AV)) (ia ib r : Nat) (x y : Int), -1000 < x → x < 1000 → -1000 < y → y < 1000 → T.length < 100 → T2.length < 101 → ia < T.length → ib < T.length → gn T ia = ⟨-1, x, []⟩ → gn T ib = ⟨-1, y, []⟩ →
 mget (ab2 ia ib) E = none → CT 64 [tp T, .data (iv .i64 (f x y))] { val := iv .i64 r, args := [tp T2, .data (iv .i64 (f x y))] } → mset (ab2 ia ib) (iv .i64 r) E = E2 →
 CT 151 [tp T, .data (ab2 ia ib), .data (.cl fid [bxl]), mm2 E] { val := iv .i64 r, args := [tp T2, .data (ab2 ia ib), .data (.cl fid [bxl]), mm2 E2] }
theorem c_joined {f : Int → Int → Int} {fid : Nat} (hF : JLF f fid) {W : List Tr} (hW : Uni W) : ∀ (n : Nat) (U : List Tr) (M : List (Tr × Tr)) (a b : Tr), a.sz + b.sz ≤ n → TB W U → a ∈ U → b ∈ U → Ok wid a → Ok wid b → J f a b ∈ W → MB f U M →
  ∃ U' M', U <+: U' ∧ TB W U' ∧ J f a b ∈ U' ∧ MB f U' M' ∧ CT 151 [tpt U, .data (ab2 (ix U a) (ix U b)), .data (.cl fid [bxl]), mm2 (me f U M)]
   {val := iv .i64 (ix U' (J f a b) : Nat), args := [tpt U', .data (ab2 (ix U a) (ix U b)), .data (.cl fid [bxl]), mm2 (me f U' M')] } := by
 intro n
 induction n with
 | zero => intro U M a b hn; have := sz_pos a; omega
 | succ n ih =>
  intro U M a b hn hT ha hb hoa hob hJ hM
  have hmg := mget_me ha hb hM
  have hUl := hT.len hW
  have hnl := nds_length U
  by_cases hm : (a, b) ∈ M
  ·rw [if_pos hm] at hmg
   exact ⟨U, M, List.prefix_refl U, hT, (hM.h _ hm).2.2, hM, c_jhit (nds U) (me f U M) _ _ _ fid [bxl] (by omega) hmg⟩
  rw [if_neg hm] at hmg
  have hia := ix_lt ha
  have hib := ix_lt hb
  have hga : gn (nds U) (ix U a) = nd U a := by rw [gn_nds hia, get_ix ha]
  have hgb : gn (nds U) (ix U b) = nd U b := by rw [gn_nds hib, get_ix hb]
  by_cases hneg : sj a b < 0
  ·have hJe := J_lf (f := f) hneg
   obtain ⟨⟨x, rfl⟩, y, rfl⟩ := sj_neg hneg
   simp only [valOf] at hJe
   rw [hJe] at hJ
   have hx := (hW.s _ (hT.s _ ha)).v
   have hy := (hW.s _ (hT.s _ hb)).v
   have hz := (hW.s _ hJ).v
   simp only [valOf, sml] at hx hy
   obtain ⟨ha1, ha2⟩ := addL_nd (t := .lf (f x y)) hT.t.clo (by simp [kidsOf])
   have hpre := ins_pre U (.lf (f x y))
   have hTV := hT.ins hW hJ (by simp [kidsOf])
   have hmem := mem_ins U (.lf (f x y))
   have hms := mset_me (f := f) (mem_of_pre hpre ha) (mem_of_pre hpre hb) (hM.pre hpre)
   have hMV := (hM.pre hpre).add (mem_of_pre hpre ha) (mem_of_pre hpre hb) (by rw [hJe]; exact hmem)
   rw [me_pre hM hpre, ix_pre hpre ha, ix_pre hpre hb] at hms
   have hcl := c_TLeaf (nds U) (f x y) (sml_nds hT.t.clo (hT.sm hW) hUl) hz (by omega)
   have hnd2 : nd U (.lf (f x y)) = ⟨-1, f x y, []⟩ := rfl
   rw [hnd2] at ha1 ha2
   rw [ha1, ha2] at hcl
   have hVl := hTV.len hW
   refine ⟨insT U (.lf (f x y)), addP M (.lf x, .lf y), hpre, hTV, by rw [hJe]; exact hmem, hMV, ?_⟩
   rw [hJe] at hms ⊢
   exact hF (nds U) (nds (insT U (.lf (f x y)))) (me f U M) _ _ _ _ x y (by omega) (by omega) (by omega) (by omega) (by omega) (by rw [nds_length]; omega) (by omega) (by omega) hga hgb hmg hcl hms
  ·have hJe := J_br (f := f) hoa hob hneg
   obtain ⟨q2, q3, q1⟩ := sj_le hneg
   have hJk := fun k hk => J_kid hW.c hoa hob hJ hneg (k := k) hk
   have hdec := fun k hk => kd_dec hoa hob hneg (k := k) hk
   have hks : Jk f a b = (List.range (wid (sj a b).toNat)).map fun k => J f (kd (sj a b).toNat k a) (kd (sj a b).toNat k b) := rfl
   generalize (sj a b).toNat = s at *
   generalize Jk f a b = ks at *
   have hwb := wid_bd s
   have hkl : ks.length = wid s := by rw [hks]; simp
   have hkg : ∀ k (h : k < ks.length), ks[k] = J f (kd s k a) (kd s k b) := fun k h => by simp only [hks, List.getElem_map, List.getElem_range]
   have hs100 : s < 100 := by
    have h1 := (hW.s _ (hT.s _ ha)).s
    have h2 := (hW.s _ (hT.s _ hb)).s
    omega
   have hna : ∀ V, U <+: V → ∀ k, k < wid s → kd s k a ∈ V := fun V hp k hk => mem_of_pre hp (kd_in hT.t.clo ha hoa hk)
   have hnb : ∀ V, U <+: V → ∀ k, k < wid s → kd s k b ∈ V := fun V hp k hk => mem_of_pre hp (kd_in hT.t.clo hb hob hk)
   obtain ⟨st, st0, hP, hS⟩ := seq_ex (α := List Tr × List (Tr × Tr)) (fun k x => U <+: x.1 ∧ TB W x.1 ∧ MB f x.1 x.2 ∧ ∀ y ∈ ks.take k, y ∈ x.1)
    (fun k x y => x.1 <+: y.1 ∧ CT 151 [tpt x.1, .data (ab2 (ix U (kd s k a)) (ix U (kd s k b))), .data (.cl fid [bxl]), mm2 (me f x.1 x.2)]
     {val := iv .i64 (ix y.1 (J f (kd s k a) (kd s k b)) : Nat), args := [tpt y.1, .data (ab2 (ix U (kd s k a)) (ix U (kd s k b))), .data (.cl fid [bxl]), mm2 (me f y.1 y.2)] })
    (U, M) ⟨List.prefix_refl U, hT, hM, by simp⟩ (wid s) (fun k x hk hx => by
     obtain ⟨p1, p2, p3, p4⟩ := hx
     have hd := hdec k hk
     obtain ⟨U2, M2, r1, r2, r3, r4, r5⟩ := ih x.1 x.2 (kd s k a) (kd s k b) (by omega) p2 (hna _ p1 k hk) (hnb _ p1 k hk) (kd_ok hoa hk) (kd_ok hob hk) (hJk k hk) p3
     rw [ix_pre p1 (hna _ (List.prefix_refl U) k hk), ix_pre p1 (hnb _ (List.prefix_refl U) k hk)] at r5
     refine ⟨(U2, M2), ⟨p1.trans r1, r2, r4, fun y hy => ?_⟩, r1, r5⟩
     rw [List.take_succ_eq_append_getElem (by omega)] at hy
     rcases List.mem_append.1 hy with hy | hy
     ·exact mem_of_pre r1 (p4 y hy)
     ·rw [List.mem_singleton.1 hy, hkg]; exact r3)
   have hPn := hP (wid s)
   rw [Nat.min_self, List.take_of_length_le (by omega)] at hPn
   obtain ⟨p1, p2, p3, p4⟩ := hPn
   have hJe2 := hJ
   rw [hJe] at hJe2
   have hne : ks ≠ [] := fun e => by rw [e] at hkl; simp at hkl; omega
   have hpb := brT_pre (st (wid s)).1 s ks
   have hTR := p2.br hW hJe2 p4
   have hmem : J f a b ∈ brT (st (wid s)).1 s ks := by rw [hJe]; exact brT_mem p4 hne
   have hpR := p1.trans hpb
   have hms := mset_me (f := f) (mem_of_pre hpR ha) (mem_of_pre hpR hb) (p3.pre hpb)
   rw [me_pre p3 hpb, ix_pre hpR ha, ix_pre hpR hb] at hms
   have hbr := c_TBr (st (wid s)).1 s ks p2.t.clo (p2.sm hW) (p2.len hW) p4 hne (by omega) hs100
   rw [← hJe, ← krow_all hkl] at hbr
   have hRl := hTR.len hW
   refine ⟨brT (st (wid s)).1 s ks, addP (st (wid s)).2 (a, b), hpR, hTR, hmem, (p3.pre hpb).add (mem_of_pre hpR ha) (mem_of_pre hpR hb) hmem, ?_⟩
   have hfin := c_jbr (fun k => nds (st k).1) (nds (brT (st (wid s)).1 s ks)) (fun k => me f (st k).1 (st k).2) _ (nd U a) (nd U b) (ix U a) (ix U b) s (wid s) (ix (brT (st (wid s)).1 s ks) (J f a b)) fid [bxl] (fun k => ix U (kd s k a)) (fun k => ix U (kd s k b)) (fun k => ix (st (k + 1)).1 (J f (kd s k a) (kd s k b))) (fun k => krow ks (st k).1 (wid s) k)
    (fun k => by rw [nds_length]; exact (hP k).2.1.len hW) (by omega) (by simp only [st0]; omega) (by simp only [st0]; omega) (by simp only [st0]; exact hga) (by simp only [st0]; exact hgb) (by simp only [st0]; exact hmg)
    q1 q2 q3 (fun e => ⟨kd_wid U e hoa, fun k hk => kd_gi U e hoa hk⟩) (fun e => ⟨kd_wid U e hob, fun k hk => kd_gi U e hob hk⟩) (fun e k hk => by simp only [kd_no e]) (fun e k hk => by simp only [kd_no e])
    (fun k hk => (hS k hk).2) (by simp [krow]) (fun k hk => krow_len hkl hk) (fun k hk => by
     have h2 := (hP k).2.2.2
     rw [Nat.min_eq_left (by omega)] at h2
     have := krow_set hkl hk h2 (hS k hk).1
     rw [hkg] at this
     exact this) hbr (by rw [nds_length]; omega) hms
   simp only [st0] at hfin
   exact hfin
def APP (o fid : Nat) : Prop := ∀ (A B T T2 N : List Nd) (ia ib r : Nat), T.length < 100 → T2.length < 101 →
 CT 75 [.data (.sl 1 [.agg [.sl 3 (ns A)], .agg [.sl 3 (ns B)]])] { val := .tup [.hp ⟨0, 0⟩ 0 0, .sl 1 (ints [(ia : Int), (ib : Int)]), iv .i64 0], new := [tp T], args := [.data (.sl 1 [.agg [.sl 3 (ns A)], .agg [.sl 3 (ns B)]])] } →
 CT 77 [tp T, .data (iv .i64 ia), .data (iv .i64 ib), .data (.cl fid [bxl])] { val := iv .i64 r, args := [tp T2, .data (iv .i64 ia), .data (iv .i64 ib), .data (.cl fid [bxl])] } →
 CT 76 [tp T2, .data (iv .i64 r)] { val := .tup [.agg [.sl 3 (ns N)], iv .i64 0], args := [tp T2, .data (iv .i64 r)] } →
 CT 33 [.data (iv .i64 o), .data (.agg [.sl 3 (ns A)]), .data (.agg [.sl 3 (ns B)])] { val := .tup [.agg [.sl 3 (ns N)], iv .i64 0], args := [.data (iv .i64 o), .data (.agg [.sl 3 (ns A)]), .data (.agg [.sl 3 (ns B)])] }
theorem enum_27 {t : Tr} {ds : List (Int × List (List Tm))} (h : Rin t ds) (hd : ds.length = 4) (hl : lv (-2) 3 t) : (enum t []).length ≤ 27 := by
 have h1 := br_four h.ok (by rw [← hd]; exact h.sb)
 have h2 := nodes_le (U := enum t []) (lo := -2) (n := 5) (enum_nodup List.nodup_nil) (enum_lv hl)
 omega
theorem c_ApplyT {f : Int → Int → Int} {o fid : Nat} (hF : JLF f fid) (hA : APP o fid) (hf : ∀ x y, -1073741824 ≤ f x y ∧ f x y ≤ 1073741824) (hv : ∀ x y, -2 ≤ x → x ≤ 3 → -2 ≤ y → y ≤ 3 → -6 ≤ f x y ∧ f x y ≤ 9)
  {a b : Tr} {ds : List (Int × List (List Tm))} (ha : Rin a ds) (hb : Rin b ds) (hd : ds.length = 4) (hla : lv (-2) 3 a) (hlb : lv (-2) 3 b) :
  Rin (J f a b) ds ∧ CT 33 [.data (iv .i64 o), dgt (enum a []), dgt (enum b [])] { val := .tup [.agg [.sl 3 (ns (nds (enum (J f a b) [])))], iv .i64 0], args := [.data (iv .i64 o), dgt (enum a []), dgt (enum b [])] } := by
 have hc : Rin (J f a b) ds := jn_in hf (fun x y h1 h2 h3 h4 => by have := hv x y h1 h2 h3 h4; omega) ha hb hd hla hlb
 refine ⟨hc, ?_⟩
 have hW := W3_uni ha hb hc hd (lo := -6) (n := 15) (by omega) (lv_mono (by omega) (by omega) hla) (lv_mono (by omega) (by omega) hlb) (lv_mono (by omega) (by omega) (J_lv hv ha.ok hb.ok hla hlb))
 obtain ⟨ta, -⟩ := enum_tab ha.ok (by have := ha.sz; omega)
 obtain ⟨tb, -⟩ := enum_tab hb.ok (by have := hb.sz; omega)
 have la := enum_27 ha hd hla
 have lb := enum_27 hb hd hlb
 have hU : TB (W3 a b (J f a b)) (insL (enum a []) (enum b [])) := ⟨⟨insL_clo ta.clo tb.clo, insL_nodup ta.nod, by have := insL_len (enum a []) (enum b []); omega, fun x hx => (insL_sub hx).elim (ta.kid x) (tb.kid x)⟩, fun x hx => (insL_sub hx).elim W3_a W3_b⟩
 have hbg := c_begin2 wid a b ha.ok hb.ok (by have := ha.sz; omega) (by have := hb.sz; omega) (fun x hx => (ha.all.1 x hx).2.2) (fun x hx => (hb.all.1 x hx).2.2) (by omega)
 obtain ⟨U', M', h1, h2, h3, h4, h5⟩ := c_joined hF hW _ _ [] a b (Nat.le_refl _) hU (mem_of_pre (insL_pre _ _) (mem_enum a [])) (mem_insL (mem_enum b [])) ha.ok hb.ok (W3_c (mem_enum _ [])) ⟨fun p hp => by cases hp⟩
 have e0 : me f (insL (enum a []) (enum b [])) [] = [] := rfl
 rw [e0] at h5
 have hUl := hU.len hW
 have hVl := h2.len hW
 have hj := c_Joins _ _ _ _ _ _ fid [bxl] (by rw [nds_length]; omega) (by rw [nds_length]; omega) h5
 have he := c_end U' (J f a b) h2.t h3 (by have := hc.all.2.1; omega) (by have := hc.sz; omega)
 exact hA _ _ _ _ _ _ _ _ (by rw [nds_length]; omega) (by rw [nds_length]; omega) hbg hj he
theorem dia_in (l : List Int) (k f p q : Nat) (hk : f + k ≤ 4) (hp : p ≤ l.length) (hq : q ≤ l.length) (hb : bw f k ≤ 60) : Rin (dia l k f p).1 (dst l q 2 4).1 := by
 obtain ⟨h1, h2, h3, h4⟩ := dia_ok l k f p (by omega) hp
 obtain ⟨h5, h6⟩ := dia_sd l k f p (by omega) hp
 have hl : (dst l q 2 4).1.length = 4 := dst_len _ _ _ _
 exact ⟨h1, by omega, sd_mono (by omega) _ h5, dst_ok l _ 2 hq (by omega) 4, by omega⟩
end Go.Proofs.YteipiejlljnclaaGreatDoor
end
section
namespace Go.Proofs.YteipiejlljnclaaGreatDoor
open Go Go.AL
attribute [local irreducible] run opK opD callK
attribute [local go_sem] not_true_eq_false not_false_eq_true decide_false psl_len dsc_len
attribute [local simp] keep keepEnv keepRows keepAV keepPl keepBody keepElems keepElem keepCells lget inL normG mc_keep mc_keep0
theorem nrm_filt2 (D : Nat) (f : Tm → Bool) : ∀ p : List Tm, nrm D (p.filter f) ≤ nrm D p
 | [] => Nat.le_refl _
 | t :: p => by
  have ih := nrm_filt2 D f p
  rw [List.filter_cons]
  split <;> simp only [nrm] <;> omega
theorem ptimes_PB2 {D E M N : Nat} {p : List Tm} {t : Tm} (h : PB D M p) (h' : PB E N [t]) : PB (D * E) (M * N) (ptimes p t) := by
 have h1 := h.prods h'
 have e : ∀ p : List Tm, prods p [t] = p.map fun s => (s.1.add t.1, s.2 * t.2) := by
  intro p
  induction p with
  | nil => rfl
  | cons s p ih =>
   have : prods (s :: p) [t] = (s.1.add t.1, s.2 * t.2) :: prods p [t] := rfl
   rw [this, ih]; rfl
 rw [e] at h1
 unfold ptimes
 exact ⟨h1.pos, fun x hx => h1.den x (List.mem_filter.1 hx).1, Nat.le_trans (nrm_filt2 _ _ _) h1.le⟩
theorem pmul_next2 (p q : List Tm) {i : Nat} (h : i < q.length) : padd (pmul p (q.take i)) (ptimes p (gp q i)) = pmul p (q.take (i + 1)) := (padd_Cn _ _).ext (pmul_Cn _ _) fun F => by
 rw [padd_L, pmul_L, pmul_L, ptimes_L, gp_take h, ← L_add]
 congr 1
 funext a
 rw [L_append]
 show _ = _ + ((gp q i).2 * F (a.add (gp q i).1) + 0)
 rw [Rat.add_zero]
theorem c_Prod2 (U V : Nat) (p q : List Tm) (hU : V + U ≤ 1000) (hp : PQ V p) (hq : PQ U q) : CT 27 [pdat p, pdat q] { val := .sl 11 (ps (pmul p q)), args := [pdat p, pdat q] } := by
 have hfit : Fit (120 ^ V * 120 ^ U) (480 ^ V * 480 ^ U) := by
  rw [← Nat.pow_add, ← Nat.pow_add]
  exact PQ.fit (by omega)
 have hlq := hq.len2 (by omega)
 have hlp := hp.len2 (by omega)
 have hz : pmul p (q.take 0) = [] := by rw [List.take_zero, pmul_nil]
 have hT : ∀ i, i < q.length → CT 67 [pdat p, tdat (gp q i)] { val := .sl 11 (ps (ptimes p (gp q i))), args := [pdat p, tdat (gp q i)] } := by
  intro i hi
  have hg := gp_mem hi
  refine c_Times p (gp q i) (fun s hs => ⟨(hp.ex s hs).ok (by omega), hp.qz (by omega) s hs, ?_⟩) ((hq.ex _ hg).ok (by omega)) (hq.qz (by omega) _ hg) (by omega)
  have := (hp.pb.prods hq.pb).qz hfit (t := (s.1.add (gp q i).1, s.2 * (gp q i).2)) (List.mem_flatMap.2 ⟨s, hs, List.mem_map.2 ⟨_, hg, rfl⟩⟩)
  exact this
 have hS : ∀ i, i < q.length → CT 22 [pdat (pmul p (q.take i)), pdat (ptimes p (gp q i))] { val := .sl 11 (ps (pmul p (q.take (i + 1)))), args := [pdat (pmul p (q.take i)), pdat (ptimes p (gp q i))] } := by
  intro i hi
  have n1 := nrm_take_succ (D := 120 ^ U) hi
  have n2 := nrm_take_le (D := 120 ^ U) q (i + 1)
  have n3 := hq.pb.le
  have hg := gp_mem hi
  have b1 := hp.pb.pmul (hq.pb.take i)
  have b2 := ptimes_PB2 hp.pb (PB.one (t := gp q i) hq.pb.pos (hq.pb.den _ hg))
  have hex : ∀ t ∈ pmul p (q.take i), Ex (V + U) t.1 := pmul_all (P := Ex V) (Q := Ex U) (fun a b ha hb => Ex.add ha hb) hp.ex fun t ht => hq.ex t (List.mem_of_mem_take ht)
  have hln := Ex.len (pmul_Cn p (q.take i)) hex
  have hln2 : (pmul p (q.take i)).length ≤ 1004004 := Nat.le_trans hln (Nat.mul_le_mul (show V + U + 1 ≤ 1002 by omega) (show V + U + 1 ≤ 1002 by omega))
  have hpl := ptimes_length p (gp q i)
  have := c_Sum (pmul p (q.take i)) (ptimes p (gp q i)) _ _ _ (pmul_Cn _ _) b1 b2 (hfit.le (by rw [← Nat.mul_add]; exact Nat.mul_le_mul_left _ (by omega))) (by omega)
  rwa [pmul_next2 p q hi] at this
 refine Ctr.intro ⟨Tryz.f27, _, Tryz.call27, Tryz.func27, fold_body (by rfl) (by kernel_rfl), (by simp [Tryz.ntmps27]), (by simp), (by kernel_rfl), ?_⟩
 refine wks ?_
 refine wk0 ?_
 refine run_loop [0, 1, 5, 6] [5] (α := {i : Nat // i ≤ q.length})
  (fun i => match i.1 with
   | 0 => ⟨[(0, .sl 11 (ps p)), (1, .sl 11 (ps q)), (5, .hs ⟨5, 1⟩ 0 0), (6, iv .i64 0)], [(5, ⟨1, true, false, .cells 11 []⟩)]⟩
   | i + 1 => ⟨[(0, .sl 11 (ps p)), (1, .sl 11 (ps q)), (5, .sl 11 (ps (pmul p (q.take (i + 1))))), (6, iv .i64 ((i : Int) + 1))], [(5, ⟨1, false, false, .cells 11 []⟩)]⟩) (fun i => q.length - i.1) ⟨0, Nat.zero_le _⟩ (by first | rfl | simp [tc, qc]) ?_
 rintro ⟨i, hi⟩
 cases i with
 | zero =>
  simp only
  refine wk0 ?_
  refine condK.dec (fun h => ?_) (fun h => ?_)
  ·have h1 := hT 0 (by omega)
   have h2 := hS 0 (by omega)
   rw [hz] at h2
   refine wk0 ?_
   refine callI (h1) ?_
   refine wk0 ?_
   refine callI (h2) ?_
   refine wk0 ?_
   exact ⟨⟨1, by omega⟩, (by first | rfl | simp [tc, qc]), by simp only; omega⟩
  ·have hq0 : q = [] := List.eq_nil_of_length_eq_zero (by omega)
   subst hq0
   rw [pmul_nil]
   refine wk0 ?_
   exact ⟨by simp [ps], trivial⟩
 | succ i =>
  simp only
  refine wk0 ?_
  refine condK.dec (fun h => ?_) (fun h => ?_)
  ·have h1 := hT (i + 1) (by omega)
   have h2 := hS (i + 1) (by omega)
   refine wk0 ?_
   refine callI (h1) ?_
   refine wk0 ?_
   refine callI (h2) ?_
   refine wk0 ?_
   exact ⟨⟨i + 1 + 1, by omega⟩, (by first | rfl | simp [tc, qc]), by simp only; omega⟩
  ·have hiq : i + 1 = q.length := by omega
   have e2 : q.take (i + 1) = q := by rw [hiq, List.take_length]
   rw [e2]
   refine wk0 ?_
   trivial
abbrev fmul (x y : Int) : Int := min (max (x * y) (-1073741824)) 1073741824
theorem jlf_mul : JLF fmul 150 := fun T T2 E E2 ia ib r x y h1 h2 h3 h4 hT hT2 hia hib hga hgb hmg hcl hms => c_jlf150 T T2 E E2 ia ib r x y (fmul x y) hT hT2 hia hib hga hgb hmg (c_fmul x y h1 h2 h3 h4) hcl hms
theorem app_mul : APP 12 150 := fun A B T T2 N ia ib r h1 h2 h3 h4 h5 => c_apply12 A B T T2 N ia ib r h1 h2 h3 h4 h5
theorem c_Indep (l : List Int) (hl : l.length < 4611686018427387904) : CT 9 [idat l] { val := .sc (.bool true), args := [idat l] } := by
 have hn := c_New l hl
 have hlt : (l.take 1000).length < 4611686018427387904 := by rw [List.length_take]; omega
 generalize l.take 1000 = k at *
 have hd1 := c_Diagram k hlt 1 (by omega) 2 0 0 (by omega) (Nat.zero_le _)
 have hla := dia_lv k 2 0 0 (by omega) (Nat.zero_le _)
 have hsa2 := (dia_sd k 2 0 0 (by omega) (Nat.zero_le _)).1
 obtain ⟨p1, hp1⟩ : ∃ p, p = (dia k 2 0 0).2 := ⟨_, rfl⟩
 have hle1 : p1 ≤ k.length := by rw [hp1]; exact (dia_ok k 2 0 0 (by omega) (Nat.zero_le _)).2.2.1
 rw [← hp1] at hd1
 have hd2 := c_Diagram k hlt 3 (by omega) 2 2 p1 (by omega) hle1
 have hlb := dia_lv k 2 2 p1 (by omega) hle1
 have hsb2 := (dia_ok k 2 2 p1 (by omega) hle1).2.1
 obtain ⟨p2, hp2⟩ : ∃ p, p = (dia k 2 2 p1).2 := ⟨_, rfl⟩
 have hle2 : p2 ≤ k.length := by rw [hp2]; exact (dia_ok k 2 2 p1 (by omega) hle1).2.2.1
 rw [← hp2] at hd2
 have hds := c_Dists k p2 4 2 hlt hle2 (by omega) (by omega)
 have ha := dia_in k 2 0 0 p2 (by omega) (Nat.zero_le _) hle2 (by decide)
 have hb := dia_in k 2 2 p1 p2 (by omega) hle1 hle2 (by decide)
 have h4 : (dst k p2 2 4).1.length = 4 := dst_len _ _ _ _
 clear hp1 hp2 hle1 hle2
 generalize (dia k 2 0 0).1 = a at *
 generalize (dia k 2 2 p1).1 = b at *
 generalize (dst k p2 2 4).1 = D at *
 generalize (dst k p2 2 4).2 = p3 at *
 have hvm : ∀ x y, -2 ≤ x → x ≤ 3 → -2 ≤ y → y ≤ 3 → -6 ≤ x * y ∧ x * y ≤ 9 := fun x y h1 h2 h3 h4 => by
  obtain rfl | rfl | rfl | rfl | rfl | rfl : x = -2 ∨ x = -1 ∨ x = 0 ∨ x = 1 ∨ x = 2 ∨ x = 3 := by omega
  all_goals omega
 have hva : ∀ x y, -2 ≤ x → x ≤ 3 → -2 ≤ y → y ≤ 3 → fmul x y = x * y := fun x y h1 h2 h3 h4 => by
  have := hvm x y h1 h2 h3 h4
  unfold fmul; omega
 obtain ⟨hc, hap⟩ := c_ApplyT jlf_mul app_mul (fun x y => by unfold fmul; omega) (fun x y h1 h2 h3 h4 => by rw [hva x y h1 h2 h3 h4]; exact hvm x y h1 h2 h3 h4) ha hb h4 hla hlb
 have hq : exq (J fmul a b) D = pmul (exq a D) (exq b D) := exq_prod hva ha hb hla hlb hsa2 hsb2
 have hxa := c_Expect a D ha
 have hxb := c_Expect b D hb
 have hxc := c_Expect (J fmul a b) D hc
 have qa := ha.exqQ
 have qb := hb.exqQ
 have qc := hc.exqQ
 have la := qa.len2 (by omega)
 have lb := qb.len2 (by omega)
 have lc := qc.len2 (by omega)
 have hsum := c_Prod2 242 242 (exq a D) (exq b D) (by omega) qa qb
 rw [← hq] at hsum
 have hsa := c_Samep (exq (J fmul a b) D) (exq (J fmul a b) D) (qc.qz (by omega)) (qc.qz (by omega)) (by omega) (by omega)
 rw [decide_eq_true rfl] at hsa
 unfold dg at hd1 hd2
 clear hq ha hb hc qa qb qc la lb lc hla hlb h4 hva hvm hsa2 hsb2
 generalize exq (J fmul a b) D = xc at *
 generalize exq a D = xa at *
 generalize exq b D = xb at *
 generalize enum (J fmul a b) [] = C at *
 generalize enum a [] = A at *
 generalize enum b [] = B at *
 refine Ctr.intro ⟨Tryz.f9, _, Tryz.call9, Tryz.func9, fold_body (by rfl) (by kernel_rfl), (by simp [Tryz.ntmps9]), (by simp), (by kernel_rfl), ?_⟩
 refine wks ?_
 refine wk0 ?_
 refine callI (hn) ?_
 refine wk0 ?_
 refine callI (hd1) ?_
 refine wk0 ?_
 refine callI (hd2) ?_
 refine wk0 ?_
 refine callI (hds) ?_
 refine wk0 ?_
 refine callI (hap) ?_
 refine wk0 ?_
 refine callI (hxa) ?_
 refine wk0 ?_
 refine callI (hxb) ?_
 refine wk0 ?_
 refine callI (hxc) ?_
 refine wk0 ?_
 refine callI (hsum) ?_
 refine wk0 ?_
 refine callI (hsa) ?_
 refine wk0 ?_
 refine callI (c_awake) ?_
 refine wk0 ?_
 simp [VC]
end Go.Proofs.YteipiejlljnclaaGreatDoor
end
