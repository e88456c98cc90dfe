/- The program's tables of nodes (graph): the join of two trees. Conditions stand in each. -/
import Derived.Test.YteipiejlljnclaaGreatDoorQKc
import Derived.Test.YteipiejlljnclaaGreatDoorQHg
import Derived.Test.YteipiejlljnclaaGreatDoorQKg
set_option linter.unusedVariables false
set_option linter.unusedSimpArgs false
set_option maxRecDepth 10000
set_option maxHeartbeats 8000000
section
namespace Go.Proofs.YteipiejlljnclaaGreatDoor
open Go Go.AL
noncomputable def me (f : Int → Int → Int) (U : List Tr) (M : List (Tr × Tr)) : List (AV × AV) := M.map fun p => (ab2 (ix U p.1) (ix U p.2), iv .i64 (ix U (J f p.1 p.2) : Nat))
structure MB (f : Int → Int → Int) (U : List Tr) (M : List (Tr × Tr)) : Prop where
 h : ∀ p ∈ M, p.1 ∈ U ∧ p.2 ∈ U ∧ J f p.1 p.2 ∈ U
theorem MB.pre {f : Int → Int → Int} {U V : List Tr} {M : List (Tr × Tr)} (h : MB f U M) (hp : U <+: V) : MB f V M :=
 ⟨fun p hm => have g := h.h p hm; ⟨mem_of_pre hp g.1, mem_of_pre hp g.2.1, mem_of_pre hp g.2.2⟩⟩
theorem me_pre {f : Int → Int → Int} {U V : List Tr} {M : List (Tr × Tr)} (h : MB f U M) (hp : U <+: V) : me f V M = me f U M := by
 unfold me
 refine List.map_congr_left fun p hm => ?_
 obtain ⟨h1, h2, h3⟩ := h.h p hm
 rw [ix_pre hp h1, ix_pre hp h2, ix_pre hp h3]
theorem key_two {U : List Tr} {a b c d : Tr} (ha : a ∈ U) (hb : b ∈ U) (hc : c ∈ U) (hd : d ∈ U) : keyEq (ab2 (ix U a) (ix U b)) (ab2 (ix U c) (ix U d)) = decide ((a, b) = (c, d)) := by
 show (((ix U a : Int) == (ix U c : Int)) && (((ix U b : Int) == (ix U d : Int)) && true)) = _
 by_cases e1 : a = c
 ·by_cases e2 : b = d
  ·subst e1 e2; simp
  ·have : ix U b ≠ ix U d := fun h => e2 (ix_inj hb hd h)
   simp [e1, e2]; omega
 ·have : ix U a ≠ ix U c := fun h => e1 (ix_inj ha hc h)
  have g : ((ix U a : Int) == (ix U c : Int)) = false := by simp; omega
  rw [g]; simp [e1]
theorem mget_me {f : Int → Int → Int} {U : List Tr} {a b : Tr} (ha : a ∈ U) (hb : b ∈ U) : ∀ {M : List (Tr × Tr)}, MB f U M → mget (ab2 (ix U a) (ix U b)) (me f U M) = if (a, b) ∈ M then some (iv .i64 (ix U (J f a b) : Nat)) else none
 | [], _ => rfl
 | p :: M, h => by
  have hp := h.h p (.head _)
  have ih := mget_me (f := f) ha hb (M := M) ⟨fun x hx => h.h x (.tail _ hx)⟩
  unfold me at ih ⊢
  rw [List.map_cons, mget, key_two ha hb hp.1 hp.2.1, ih]
  by_cases e : (a, b) = p
  ·subst e; simp
  ·have e' : ¬ (a, b) = (p.1, p.2) := e
   simp only [e', decide_false, Bool.false_eq_true, if_false, List.mem_cons, e, false_or]
noncomputable def addP (M : List (Tr × Tr)) (p : Tr × Tr) : List (Tr × Tr) := if p ∈ M then M else M ++ [p]
theorem mset_me {f : Int → Int → Int} {U : List Tr} {a b : Tr} (ha : a ∈ U) (hb : b ∈ U) : ∀ {M : List (Tr × Tr)}, MB f U M → mset (ab2 (ix U a) (ix U b)) (iv .i64 (ix U (J f a b) : Nat)) (me f U M) = me f U (addP M (a, b))
 | [], _ => by simp [me, mset, addP]
 | p :: M, h => by
  have hp := h.h p (.head _)
  have ih := mset_me (f := f) ha hb (M := M) ⟨fun x hx => h.h x (.tail _ hx)⟩
  unfold me at ih ⊢
  rw [List.map_cons, mset, key_two ha hb hp.1 hp.2.1, ih]
  by_cases e : (a, b) = p
  ·subst e; simp [addP]
  ·have e' : ¬ (a, b) = (p.1, p.2) := e
   unfold addP
   simp only [e', decide_false, Bool.false_eq_true, if_false, List.mem_cons, e, false_or]
   split <;> simp
theorem MB.add {f : Int → Int → Int} {U : List Tr} {M : List (Tr × Tr)} (h : MB f U M) {a b : Tr} (ha : a ∈ U) (hb : b ∈ U) (hj : J f a b ∈ U) : MB f U (addP M (a, b)) := ⟨fun p hp => by
 unfold addP at hp
 split at hp
 ·exact h.h p hp
 ·rcases List.mem_append.1 hp with hp | hp
  ·exact h.h p hp
  ·rw [List.mem_singleton.1 hp]; exact ⟨ha, hb, hj⟩⟩
theorem kd_in {U : List Tr} (hc : Clo U) {s k : Nat} {t : Tr} (ht : t ∈ U) (hok : Ok wid t) (hk : k < wid s) : kd s k t ∈ U := by
 by_cases e : siteOf t = s
 ·obtain ⟨ks, rfl⟩ := at_site e
  have hwk : ks.length = wid s := by cases hok; assumption
  rw [kd_br, gt_eq (by omega)]
  exact hc.kids ht _ (List.getElem_mem _)
 ·rw [kd_no e]; exact ht
theorem kd_gi (U : List Tr) {s k : Nat} {t : Tr} (e : siteOf t = s) (hok : Ok wid t) (hk : k < wid s) : gi (nd U t).kids k = (ix U (kd s k t) : Int) := by
 obtain ⟨ks, rfl⟩ := at_site e
 have hwk : ks.length = wid s := by cases hok; assumption
 rw [kd_br, gt_eq (by omega)]
 exact gi_kid (t := .br s ks) (by simp only [kidsOf]; omega)
theorem kd_wid (U : List Tr) {s : Nat} {t : Tr} (e : siteOf t = s) (hok : Ok wid t) : (nd U t).kids.length = wid s := by
 obtain ⟨ks, rfl⟩ := at_site e
 have hwk : ks.length = wid s := by cases hok; assumption
 rw [nd_klen]; exact hwk
theorem seq_ex {α : Type} (P : Nat → α → Prop) (S : Nat → α → α → Prop) (x : α) (h0 : P 0 x) : ∀ n, (∀ k y, k < n → P k y → ∃ z, P (k + 1) z ∧ S k y z) → ∃ st : Nat → α, st 0 = x ∧ (∀ k, P (min k n) (st k)) ∧ ∀ k, k < n → S k (st k) (st (k + 1))
 | 0, _ => ⟨fun _ => x, rfl, fun k => by rw [Nat.min_zero]; exact h0, fun k hk => absurd hk (Nat.not_lt_zero k)⟩
 | n + 1, hs => by
  obtain ⟨st, h1, h2, h3⟩ := seq_ex P S x h0 n fun k y hk => hs k y (by omega)
  have hn := h2 n
  rw [Nat.min_self] at hn
  obtain ⟨z, hz1, hz2⟩ := hs n (st n) (by omega) hn
  refine ⟨fun k => if k ≤ n then st k else z, by simp [h1], fun k => ?_, fun k hk => ?_⟩ <;> simp only
  ·by_cases e : k ≤ n
   ·have := h2 k
    rw [Nat.min_eq_left e] at this
    rw [if_pos e, Nat.min_eq_left (by omega)]; exact this
   ·rw [if_neg e, Nat.min_eq_right (by omega)]; exact hz1
  ·by_cases e : k < n
   ·rw [if_pos (by omega), if_pos (by omega)]; exact h3 k e
   ·have : k = n := by omega
    subst this
    rw [if_pos (by omega), if_neg (by omega)]; exact hz2
noncomputable def krow (ks V : List Tr) (n k : Nat) : List Int := (ks.take k).map (fun x => (ix V x : Int)) ++ List.replicate (n - k) 0
theorem krow_len {ks V : List Tr} {n k : Nat} (h : ks.length = n) (hk : k ≤ n) : (krow ks V n k).length = n := by
 simp only [krow, List.length_append, List.length_map, List.length_take, List.length_replicate]; omega
theorem krow_set {ks V V' : List Tr} {n k : Nat} (h : ks.length = n) (hk : k < n) (hv : ∀ x ∈ ks.take k, x ∈ V) (hp : V <+: V') : (krow ks V n k).set k (ix V' (ks[k]'(by omega)) : Int) = krow ks V' n (k + 1) := by
 unfold krow
 have hl : ((ks.take k).map fun x => (ix V x : Int)).length = k := by rw [List.length_map, List.length_take]; omega
 rw [List.set_append_right _ _ (by omega), hl, Nat.sub_self, show n - k = (n - (k + 1)) + 1 by omega, List.replicate_succ, List.set_cons_zero, List.take_succ_eq_append_getElem (by omega : k < ks.length), List.map_append, List.append_assoc]
 congr 1
 exact List.map_congr_left fun x hx => by rw [ix_pre hp (hv x hx)]
theorem krow_all {ks V : List Tr} {n : Nat} (h : ks.length = n) : krow ks V n n = ks.map fun x => (ix V x : Int) := by
 unfold krow
 rw [List.take_of_length_le (by omega), Nat.sub_self]; simp
def JLF (f : Int → Int → Int) (fid : Nat) : Prop := ∀ (T T2 : List Nd) (E E2 : List (AV × AV)) (ia ib r : Nat) (x y : Int), -1000 < x → x < 1000 → -1000 < y → y < 1000 → T.length < 100 → T2.length < 101 → ia < T.length → ib < T.length → gn T ia = ⟨-1, x, []⟩ → gn T ib = ⟨-1, y, []⟩ →
 mget (ab2 ia ib) E = none → CT 64 [tp T, .data (iv .i64 (f x y))] { val := iv .i64 r, args := [tp T2, .data (iv .i64 (f x y))] } → mset (ab2 ia ib) (iv .i64 r) E = E2 →
 CT 151 [tp T, .data (ab2 ia ib), .data (.cl fid [bxl]), mm2 E] { val := iv .i64 r, args := [tp T2, .data (ab2 ia ib), .data (.cl fid [bxl]), mm2 E2] }
theorem c_joined {f : Int → Int → Int} {fid : Nat} (hF : JLF f fid) {W : List Tr} (hW : Uni W) : ∀ (n : Nat) (U : List Tr) (M : List (Tr × Tr)) (a b : Tr), a.sz + b.sz ≤ n → TB W U → a ∈ U → b ∈ U → Ok wid a → Ok wid b → J f a b ∈ W → MB f U M →
  ∃ U' M', U <+: U' ∧ TB W U' ∧ J f a b ∈ U' ∧ MB f U' M' ∧ CT 151 [tpt U, .data (ab2 (ix U a) (ix U b)), .data (.cl fid [bxl]), mm2 (me f U M)]
   {val := iv .i64 (ix U' (J f a b) : Nat), args := [tpt U', .data (ab2 (ix U a) (ix U b)), .data (.cl fid [bxl]), mm2 (me f U' M')] } := by
 intro n
 induction n with
 | zero => intro U M a b hn; have := sz_pos a; omega
 | succ n ih =>
  intro U M a b hn hT ha hb hoa hob hJ hM
  have hmg := mget_me ha hb hM
  have hUl := hT.len hW
  have hnl := nds_length U
  by_cases hm : (a, b) ∈ M
  ·rw [if_pos hm] at hmg
   exact ⟨U, M, List.prefix_refl U, hT, (hM.h _ hm).2.2, hM, c_jhit (nds U) (me f U M) _ _ _ fid [bxl] (by omega) hmg⟩
  rw [if_neg hm] at hmg
  have hia := ix_lt ha
  have hib := ix_lt hb
  have hga : gn (nds U) (ix U a) = nd U a := by rw [gn_nds hia, get_ix ha]
  have hgb : gn (nds U) (ix U b) = nd U b := by rw [gn_nds hib, get_ix hb]
  by_cases hneg : sj a b < 0
  ·have hJe := J_lf (f := f) hneg
   obtain ⟨⟨x, rfl⟩, y, rfl⟩ := sj_neg hneg
   simp only [valOf] at hJe
   rw [hJe] at hJ
   have hx := (hW.s _ (hT.s _ ha)).v
   have hy := (hW.s _ (hT.s _ hb)).v
   have hz := (hW.s _ hJ).v
   simp only [valOf, sml] at hx hy
   obtain ⟨ha1, ha2⟩ := addL_nd (t := .lf (f x y)) hT.t.clo (by simp [kidsOf])
   have hpre := ins_pre U (.lf (f x y))
   have hTV := hT.ins hW hJ (by simp [kidsOf])
   have hmem := mem_ins U (.lf (f x y))
   have hms := mset_me (f := f) (mem_of_pre hpre ha) (mem_of_pre hpre hb) (hM.pre hpre)
   have hMV := (hM.pre hpre).add (mem_of_pre hpre ha) (mem_of_pre hpre hb) (by rw [hJe]; exact hmem)
   rw [me_pre hM hpre, ix_pre hpre ha, ix_pre hpre hb] at hms
   have hcl := c_TLeaf (nds U) (f x y) (sml_nds hT.t.clo (hT.sm hW) hUl) hz (by omega)
   have hnd2 : nd U (.lf (f x y)) = ⟨-1, f x y, []⟩ := rfl
   rw [hnd2] at ha1 ha2
   rw [ha1, ha2] at hcl
   have hVl := hTV.len hW
   refine ⟨insT U (.lf (f x y)), addP M (.lf x, .lf y), hpre, hTV, by rw [hJe]; exact hmem, hMV, ?_⟩
   rw [hJe] at hms ⊢
   exact hF (nds U) (nds (insT U (.lf (f x y)))) (me f U M) _ _ _ _ x y (by omega) (by omega) (by omega) (by omega) (by omega) (by rw [nds_length]; omega) (by omega) (by omega) hga hgb hmg hcl hms
  ·have hJe := J_br (f := f) hoa hob hneg
   obtain ⟨q2, q3, q1⟩ := sj_le hneg
   have hJk := fun k hk => J_kid hW.c hoa hob hJ hneg (k := k) hk
   have hdec := fun k hk => kd_dec hoa hob hneg (k := k) hk
   have hks : Jk f a b = (List.range (wid (sj a b).toNat)).map fun k => J f (kd (sj a b).toNat k a) (kd (sj a b).toNat k b) := rfl
   generalize (sj a b).toNat = s at *
   generalize Jk f a b = ks at *
   have hwb := wid_bd s
   have hkl : ks.length = wid s := by rw [hks]; simp
   have hkg : ∀ k (h : k < ks.length), ks[k] = J f (kd s k a) (kd s k b) := fun k h => by simp only [hks, List.getElem_map, List.getElem_range]
   have hs100 : s < 100 := by
    have h1 := (hW.s _ (hT.s _ ha)).s
    have h2 := (hW.s _ (hT.s _ hb)).s
    omega
   have hna : ∀ V, U <+: V → ∀ k, k < wid s → kd s k a ∈ V := fun V hp k hk => mem_of_pre hp (kd_in hT.t.clo ha hoa hk)
   have hnb : ∀ V, U <+: V → ∀ k, k < wid s → kd s k b ∈ V := fun V hp k hk => mem_of_pre hp (kd_in hT.t.clo hb hob hk)
   obtain ⟨st, st0, hP, hS⟩ := seq_ex (α := List Tr × List (Tr × Tr)) (fun k x => U <+: x.1 ∧ TB W x.1 ∧ MB f x.1 x.2 ∧ ∀ y ∈ ks.take k, y ∈ x.1)
    (fun k x y => x.1 <+: y.1 ∧ CT 151 [tpt x.1, .data (ab2 (ix U (kd s k a)) (ix U (kd s k b))), .data (.cl fid [bxl]), mm2 (me f x.1 x.2)]
     {val := iv .i64 (ix y.1 (J f (kd s k a) (kd s k b)) : Nat), args := [tpt y.1, .data (ab2 (ix U (kd s k a)) (ix U (kd s k b))), .data (.cl fid [bxl]), mm2 (me f y.1 y.2)] })
    (U, M) ⟨List.prefix_refl U, hT, hM, by simp⟩ (wid s) (fun k x hk hx => by
     obtain ⟨p1, p2, p3, p4⟩ := hx
     have hd := hdec k hk
     obtain ⟨U2, M2, r1, r2, r3, r4, r5⟩ := ih x.1 x.2 (kd s k a) (kd s k b) (by omega) p2 (hna _ p1 k hk) (hnb _ p1 k hk) (kd_ok hoa hk) (kd_ok hob hk) (hJk k hk) p3
     rw [ix_pre p1 (hna _ (List.prefix_refl U) k hk), ix_pre p1 (hnb _ (List.prefix_refl U) k hk)] at r5
     refine ⟨(U2, M2), ⟨p1.trans r1, r2, r4, fun y hy => ?_⟩, r1, r5⟩
     rw [List.take_succ_eq_append_getElem (by omega)] at hy
     rcases List.mem_append.1 hy with hy | hy
     ·exact mem_of_pre r1 (p4 y hy)
     ·rw [List.mem_singleton.1 hy, hkg]; exact r3)
   have hPn := hP (wid s)
   rw [Nat.min_self, List.take_of_length_le (by omega)] at hPn
   obtain ⟨p1, p2, p3, p4⟩ := hPn
   have hJe2 := hJ
   rw [hJe] at hJe2
   have hne : ks ≠ [] := fun e => by rw [e] at hkl; simp at hkl; omega
   have hpb := brT_pre (st (wid s)).1 s ks
   have hTR := p2.br hW hJe2 p4
   have hmem : J f a b ∈ brT (st (wid s)).1 s ks := by rw [hJe]; exact brT_mem p4 hne
   have hpR := p1.trans hpb
   have hms := mset_me (f := f) (mem_of_pre hpR ha) (mem_of_pre hpR hb) (p3.pre hpb)
   rw [me_pre p3 hpb, ix_pre hpR ha, ix_pre hpR hb] at hms
   have hbr := c_TBr (st (wid s)).1 s ks p2.t.clo (p2.sm hW) (p2.len hW) p4 hne (by omega) hs100
   rw [← hJe, ← krow_all hkl] at hbr
   have hRl := hTR.len hW
   refine ⟨brT (st (wid s)).1 s ks, addP (st (wid s)).2 (a, b), hpR, hTR, hmem, (p3.pre hpb).add (mem_of_pre hpR ha) (mem_of_pre hpR hb) hmem, ?_⟩
   have hfin := c_jbr (fun k => nds (st k).1) (nds (brT (st (wid s)).1 s ks)) (fun k => me f (st k).1 (st k).2) _ (nd U a) (nd U b) (ix U a) (ix U b) s (wid s) (ix (brT (st (wid s)).1 s ks) (J f a b)) fid [bxl] (fun k => ix U (kd s k a)) (fun k => ix U (kd s k b)) (fun k => ix (st (k + 1)).1 (J f (kd s k a) (kd s k b))) (fun k => krow ks (st k).1 (wid s) k)
    (fun k => by rw [nds_length]; exact (hP k).2.1.len hW) (by omega) (by simp only [st0]; omega) (by simp only [st0]; omega) (by simp only [st0]; exact hga) (by simp only [st0]; exact hgb) (by simp only [st0]; exact hmg)
    q1 q2 q3 (fun e => ⟨kd_wid U e hoa, fun k hk => kd_gi U e hoa hk⟩) (fun e => ⟨kd_wid U e hob, fun k hk => kd_gi U e hob hk⟩) (fun e k hk => by simp only [kd_no e]) (fun e k hk => by simp only [kd_no e])
    (fun k hk => (hS k hk).2) (by simp [krow]) (fun k hk => krow_len hkl hk) (fun k hk => by
     have h2 := (hP k).2.2.2
     rw [Nat.min_eq_left (by omega)] at h2
     have := krow_set hkl hk h2 (hS k hk).1
     rw [hkg] at this
     exact this) hbr (by rw [nds_length]; omega) hms
   simp only [st0] at hfin
   exact hfin
def APP (o fid : Nat) : Prop := ∀ (A B T T2 N : List Nd) (ia ib r : Nat), T.length < 100 → T2.length < 101 →
 CT 75 [.data (.sl 1 [.agg [.sl 3 (ns A)], .agg [.sl 3 (ns B)]])] { val := .tup [.hp ⟨0, 0⟩ 0 0, .sl 1 (ints [(ia : Int), (ib : Int)]), iv .i64 0], new := [tp T], args := [.data (.sl 1 [.agg [.sl 3 (ns A)], .agg [.sl 3 (ns B)]])] } →
 CT 77 [tp T, .data (iv .i64 ia), .data (iv .i64 ib), .data (.cl fid [bxl])] { val := iv .i64 r, args := [tp T2, .data (iv .i64 ia), .data (iv .i64 ib), .data (.cl fid [bxl])] } →
 CT 76 [tp T2, .data (iv .i64 r)] { val := .tup [.agg [.sl 3 (ns N)], iv .i64 0], args := [tp T2, .data (iv .i64 r)] } →
 CT 33 [.data (iv .i64 o), .data (.agg [.sl 3 (ns A)]), .data (.agg [.sl 3 (ns B)])] { val := .tup [.agg [.sl 3 (ns N)], iv .i64 0], args := [.data (iv .i64 o), .data (.agg [.sl 3 (ns A)]), .data (.agg [.sl 3 (ns B)])] }
theorem enum_27 {t : Tr} {ds : List (Int × List (List Tm))} (h : Rin t ds) (hd : ds.length = 4) (hl : lv (-2) 3 t) : (enum t []).length ≤ 27 := by
 have h1 := br_four h.ok (by rw [← hd]; exact h.sb)
 have h2 := nodes_le (U := enum t []) (lo := -2) (n := 5) (enum_nodup List.nodup_nil) (enum_lv hl)
 omega
theorem c_ApplyT {f : Int → Int → Int} {o fid : Nat} (hF : JLF f fid) (hA : APP o fid) (hf : ∀ x y, -1073741824 ≤ f x y ∧ f x y ≤ 1073741824) (hv : ∀ x y, -2 ≤ x → x ≤ 3 → -2 ≤ y → y ≤ 3 → -6 ≤ f x y ∧ f x y ≤ 9)
  {a b : Tr} {ds : List (Int × List (List Tm))} (ha : Rin a ds) (hb : Rin b ds) (hd : ds.length = 4) (hla : lv (-2) 3 a) (hlb : lv (-2) 3 b) :
  Rin (J f a b) ds ∧ CT 33 [.data (iv .i64 o), dgt (enum a []), dgt (enum b [])] { val := .tup [.agg [.sl 3 (ns (nds (enum (J f a b) [])))], iv .i64 0], args := [.data (iv .i64 o), dgt (enum a []), dgt (enum b [])] } := by
 have hc : Rin (J f a b) ds := jn_in hf (fun x y h1 h2 h3 h4 => by have := hv x y h1 h2 h3 h4; omega) ha hb hd hla hlb
 refine ⟨hc, ?_⟩
 have hW := W3_uni ha hb hc hd (lo := -6) (n := 15) (by omega) (lv_mono (by omega) (by omega) hla) (lv_mono (by omega) (by omega) hlb) (lv_mono (by omega) (by omega) (J_lv hv ha.ok hb.ok hla hlb))
 obtain ⟨ta, -⟩ := enum_tab ha.ok (by have := ha.sz; omega)
 obtain ⟨tb, -⟩ := enum_tab hb.ok (by have := hb.sz; omega)
 have la := enum_27 ha hd hla
 have lb := enum_27 hb hd hlb
 have hU : TB (W3 a b (J f a b)) (insL (enum a []) (enum b [])) := ⟨⟨insL_clo ta.clo tb.clo, insL_nodup ta.nod, by have := insL_len (enum a []) (enum b []); omega, fun x hx => (insL_sub hx).elim (ta.kid x) (tb.kid x)⟩, fun x hx => (insL_sub hx).elim W3_a W3_b⟩
 have hbg := c_begin2 wid a b ha.ok hb.ok (by have := ha.sz; omega) (by have := hb.sz; omega) (fun x hx => (ha.all.1 x hx).2.2) (fun x hx => (hb.all.1 x hx).2.2) (by omega)
 obtain ⟨U', M', h1, h2, h3, h4, h5⟩ := c_joined hF hW _ _ [] a b (Nat.le_refl _) hU (mem_of_pre (insL_pre _ _) (mem_enum a [])) (mem_insL (mem_enum b [])) ha.ok hb.ok (W3_c (mem_enum _ [])) ⟨fun p hp => by cases hp⟩
 have e0 : me f (insL (enum a []) (enum b [])) [] = [] := rfl
 rw [e0] at h5
 have hUl := hU.len hW
 have hVl := h2.len hW
 have hj := c_Joins _ _ _ _ _ _ fid [bxl] (by rw [nds_length]; omega) (by rw [nds_length]; omega) h5
 have he := c_end U' (J f a b) h2.t h3 (by have := hc.all.2.1; omega) (by have := hc.sz; omega)
 exact hA _ _ _ _ _ _ _ _ (by rw [nds_length]; omega) (by rw [nds_length]; omega) hbg hj he
theorem dia_in (l : List Int) (k f p q : Nat) (hk : f + k ≤ 4) (hp : p ≤ l.length) (hq : q ≤ l.length) (hb : bw f k ≤ 60) : Rin (dia l k f p).1 (dst l q 2 4).1 := by
 obtain ⟨h1, h2, h3, h4⟩ := dia_ok l k f p (by omega) hp
 obtain ⟨h5, h6⟩ := dia_sd l k f p (by omega) hp
 have hl : (dst l q 2 4).1.length = 4 := dst_len _ _ _ _
 exact ⟨h1, by omega, sd_mono (by omega) _ h5, dst_ok l _ 2 hq (by omega) 4, by omega⟩
end Go.Proofs.YteipiejlljnclaaGreatDoor
end
section
namespace Go.Proofs.YteipiejlljnclaaGreatDoor
open Go Go.AL
attribute [local irreducible] run opK opD callK
attribute [local go_sem] not_true_eq_false not_false_eq_true decide_false psl_len dsc_len
abbrev fadd (x y : Int) : Int := min (max (x + y) (-1073741824)) 1073741824
theorem jlf_add : JLF fadd 148 := fun T T2 E E2 ia ib r x y h1 h2 h3 h4 hT hT2 hia hib hga hgb hmg hcl hms => c_jlf148 T T2 E E2 ia ib r x y (fadd x y) hT hT2 hia hib hga hgb hmg (c_fadd x y h1 h2 h3 h4) hcl hms
theorem app_add : APP 10 148 := fun A B T T2 N ia ib r h1 h2 h3 h4 h5 => c_apply10 A B T T2 N ia ib r h1 h2 h3 h4 h5
theorem c_Sums (l : List Int) (hl : l.length < 4611686018427387904) : CT 8 [idat l] { val := .sc (.bool true), args := [idat l] } := by
 have hn := c_New l hl
 have hlt : (l.take 1000).length < 4611686018427387904 := by rw [List.length_take]; omega
 generalize l.take 1000 = k at *
 have hd1 : CT 20 [sp k 0, .data (iv .i64 0), .data (iv .i64 3)] { val := dg (dia k 4 0 0).1, args := [sp k (dia k 4 0 0).2, .data (iv .i64 0), .data (iv .i64 3)] } := c_Diagram k hlt 3 (by omega) 4 0 0 (by omega) (Nat.zero_le _)
 have hla := dia_lv k 4 0 0 (by omega) (Nat.zero_le _)
 obtain ⟨p1, hp1⟩ : ∃ p, p = (dia k 4 0 0).2 := ⟨_, rfl⟩
 have hle1 : p1 ≤ k.length := by rw [hp1]; exact (dia_ok k 4 0 0 (by omega) (Nat.zero_le _)).2.2.1
 rw [← hp1] at hd1
 have hd2 : CT 20 [sp k p1, .data (iv .i64 0), .data (iv .i64 3)] { val := dg (dia k 4 0 p1).1, args := [sp k (dia k 4 0 p1).2, .data (iv .i64 0), .data (iv .i64 3)] } := c_Diagram k hlt 3 (by omega) 4 0 p1 (by omega) hle1
 have hlb := dia_lv k 4 0 p1 (by omega) hle1
 obtain ⟨p2, hp2⟩ : ∃ p, p = (dia k 4 0 p1).2 := ⟨_, rfl⟩
 have hle2 : p2 ≤ k.length := by rw [hp2]; exact (dia_ok k 4 0 p1 (by omega) hle1).2.2.1
 rw [← hp2] at hd2
 have hds : CT 21 [sp k p2, .data (iv .i64 4), .data (iv .i64 2)] { val := .sl 10 (dscs (dst k p2 2 4).1), args := [sp k (dst k p2 2 4).2, .data (iv .i64 4), .data (iv .i64 2)] } := c_Dists k p2 4 2 hlt hle2 (by omega) (by omega)
 have ha := dia_in k 4 0 0 p2 (by omega) (Nat.zero_le _) hle2 (by rw [bw_04]; omega)
 have hb := dia_in k 4 0 p1 p2 (by omega) hle1 hle2 (by rw [bw_04]; omega)
 have h4 : (dst k p2 2 4).1.length = 4 := dst_len _ _ _ _
 clear hp1 hp2 hle1 hle2
 generalize (dia k 4 0 0).1 = a at *
 generalize (dia k 4 0 p1).1 = b at *
 generalize (dst k p2 2 4).1 = D at *
 generalize (dst k p2 2 4).2 = p3 at *
 have hva : ∀ x y, -2 ≤ x → x ≤ 3 → -2 ≤ y → y ≤ 3 → fadd x y = x + y := fun x y _ _ _ _ => by unfold fadd; omega
 obtain ⟨hc, hap⟩ := c_ApplyT jlf_add app_add (fun x y => by unfold fadd; omega) (fun x y _ _ _ _ => by unfold fadd; omega) ha hb h4 hla hlb
 have hq : exq (J fadd a b) D = padd (exq a D) (exq b D) := exq_sum hva ha hb hla hlb
 have hxa := c_Expect a D ha
 have hxb := c_Expect b D hb
 have hxc := c_Expect (J fadd a b) D hc
 have qa := ha.exqQ
 have qb := hb.exqQ
 have qc := hc.exqQ
 have la := qa.len2 (by omega)
 have lb := qb.len2 (by omega)
 have lc := qc.len2 (by omega)
 have hsum : CT 22 [pdat (exq a D), pdat (exq b D)] { val := .sl 11 (ps (padd (exq a D) (exq b D))), args := [pdat (exq a D), pdat (exq b D)] } :=
  c_Sum (exq a D) (exq b D) (120 ^ 242) (480 ^ 242) (480 ^ 242) qa.cn qa.pb qb.pb (by
   have := fit_of (U := 242) (a := 1) (b := 2) (by omega) (by omega) (by omega)
   rwa [Nat.mul_one, Nat.mul_two] at this) (by omega)
 rw [← hq] at hsum
 have hsa := c_Samep (exq (J fadd a b) D) (exq (J fadd a b) D) (qc.qz (by omega)) (qc.qz (by omega)) (by omega) (by omega)
 rw [decide_eq_true rfl] at hsa
 unfold dg at hd1 hd2
 clear hq ha hb hc qa qb qc la lb lc hla hlb h4 hva
 generalize exq (J fadd a b) D = xc at *
 generalize exq a D = xa at *
 generalize exq b D = xb at *
 generalize enum (J fadd a b) [] = C at *
 generalize enum a [] = A at *
 generalize enum b [] = B at *
 refine Ctr.intro ⟨Tryz.f8, _, Tryz.call8, Tryz.func8, fold_body (by rfl) (by kernel_rfl), (by simp [Tryz.ntmps8]), (by simp), (by kernel_rfl), ?_⟩
 refine wks ?_
 refine wk0 ?_
 refine callI (hn) ?_
 refine wk0 ?_
 refine callI (hd1) ?_
 refine wk0 ?_
 refine callI (hd2) ?_
 refine wk0 ?_
 refine callI (hds) ?_
 refine wk0 ?_
 refine callI (hap) ?_
 refine wk0 ?_
 refine callI (hxa) ?_
 refine wk0 ?_
 refine callI (hxb) ?_
 refine wk0 ?_
 refine callI (hxc) ?_
 refine wk0 ?_
 refine callI (hsum) ?_
 refine wk0 ?_
 refine callI (hsa) ?_
 refine wk0 ?_
 refine callI (c_awake) ?_
 refine wk0 ?_
 simp [VC]
end Go.Proofs.YteipiejlljnclaaGreatDoor
end
