/- The program's tables of nodes (graph): the join of two trees. Conditions stand in each. -/
import Derived.Test.YteipiejlljnclaaGreatDoorSKc
import Derived.Test.YteipiejlljnclaaGreatDoorSHg
import Derived.Test.YteipiejlljnclaaGreatDoorSHk
import Derived.Test.YteipiejlljnclaaGreatDoorRKg
set_option linter.unusedVariables false
set_option linter.unusedSimpArgs false
set_option maxRecDepth 10000
set_option maxHeartbeats 8000000
section
namespace Go.Proofs.YteipiejlljnclaaGreatDoor
open Go Go.AL
structure MB (f : Int → Int → Int) (U : List Tr) (M : List (Tr × Tr)) : Prop where
 h : ∀ p ∈ M, p.1 ∈ U ∧ p.2 ∈ U ∧ J f p.1 p.2 ∈ U
theorem MB.pre {f : Int → Int → Int} {U V : List Tr} {M : List (Tr × Tr)} (h : MB f U M) (hp : U <+: V) : MB f V M :=
 ⟨fun p hm => have g := h.h p hm; ⟨mem_of_pre hp g.1, mem_of_pre hp g.2.1, mem_of_pre hp g.2.2⟩⟩
noncomputable def addP (M : List (Tr × Tr)) (p : Tr × Tr) : List (Tr × Tr) := if p ∈ M then M else M ++ [p]
theorem MB.add {f : Int → Int → Int} {U : List Tr} {M : List (Tr × Tr)} (h : MB f U M) {a b : Tr} (ha : a ∈ U) (hb : b ∈ U) (hj : J f a b ∈ U) : MB f U (addP M (a, b)) := ⟨fun p hp => by
 unfold addP at hp
 split at hp
 ·exact h.h p hp
 ·rcases List.mem_append.1 hp with hp | hp
  ·exact h.h p hp
  ·rw [List.mem_singleton.1 hp]; exact ⟨ha, hb, hj⟩⟩
theorem seq_ex {α : Type} (P : Nat → α → Prop) (S : Nat → α → α → Prop) (x : α) (h0 : P 0 x) : ∀ n, (∀ k y, k < n → P k y → ∃ z, P (k + 1) z ∧ S k y z) → ∃ st : Nat → α, st 0 = x ∧ (∀ k, P (min k n) (st k)) ∧ ∀ k, k < n → S k (st k) (st (k + 1))
 | 0, _ => ⟨fun _ => x, rfl, fun k => by rw [Nat.min_zero]; exact h0, fun k hk => absurd hk (Nat.not_lt_zero k)⟩
 | n + 1, hs => by
  obtain ⟨st, h1, h2, h3⟩ := seq_ex P S x h0 n fun k y hk => hs k y (by omega)
  have hn := h2 n
  rw [Nat.min_self] at hn
  obtain ⟨z, hz1, hz2⟩ := hs n (st n) (by omega) hn
  refine ⟨fun k => if k ≤ n then st k else z, by simp [h1], fun k => ?_, fun k hk => ?_⟩ <;> simp only
  ·by_cases e : k ≤ n
   ·have := h2 k
    rw [Nat.min_eq_left e] at this
    rw [if_pos e, Nat.min_eq_left (by omega)]; exact this
   ·rw [if_neg e, Nat.min_eq_right (by omega)]; exact hz1
  ·by_cases e : k < n
   ·rw [if_pos (by omega), if_pos (by omega)]; exact h3 k e
   ·have : k = n := by omega
    subst this
    rw [if_pos (by omega), if_neg (by omega)]; exact hz2
noncomputable def krow (ks V : List Tr) (n k : Nat) : List Int := (ks.take k).map (fun x => (ix V x : Int)) ++ List.replicate (n - k) 0
theorem krow_len {ks V : List Tr} {n k : Nat} (h : ks.length = n) (hk : k ≤ n) : (krow ks V n k).length = n := by
 simp only [krow, List.length_append, List.length_map, List.length_take, List.length_replicate]; omega
theorem krow_set {ks V V' : List Tr} {n k : Nat} (h : ks.length = n) (hk : k < n) (hv : ∀ x ∈ ks.take k, x ∈ V) (hp : V <+: V') : (krow ks V n k).set k (ix V' (ks[k]'(by omega)) : Int) = krow ks V' n (k + 1) := by
 unfold krow
 have hl : ((ks.take k).map fun x => (ix V x : Int)).length = k := by rw [List.length_map, List.length_take]; omega
 rw [List.set_append_right _ _ (by omega), hl, Nat.sub_self, show n - k = (n - (k + 1)) + 1 by omega, List.replicate_succ, List.set_cons_zero, List.take_succ_eq_append_getElem (by omega : k < ks.length), List.map_append, List.append_assoc]
 congr 1
 exact List.map_congr_left fun x hx => by rw [ix_pre hp (hv x hx)]
theorem krow_all {ks V : List Tr} {n : Nat} (h : ks.length = n) : krow ks V n n = ks.map fun x => (ix V x : Int) := by
 unfold krow
 rw [List.take_of_length_le (by omega), Nat.sub_self]; simp
theorem dia_in (l : List Int) (k f p q : Nat) (hk : f + k ≤ 4) (hp : p ≤ l.length) (hq : q ≤ l.length) (hb : bw f k ≤ 60) : Rin (dia l k f p).1 (dst l q 2 4).1 := by
 obtain ⟨h1, h2, h3, h4⟩ := dia_ok l k f p (by omega) hp
 obtain ⟨h5, h6⟩ := dia_sd l k f p (by omega) hp
 have hl : (dst l q 2 4).1.length = 4 := dst_len _ _ _ _
 exact ⟨h1, by omega, sd_mono (by omega) _ h5, dst_ok l _ 2 hq (by omega) 4, by omega⟩
end Go.Proofs.YteipiejlljnclaaGreatDoor
end
section
namespace Go.Proofs.YteipiejlljnclaaGreatDoor
open Go Go.AL
attribute [local irreducible] run opK opD callK
attribute [local go_sem] not_true_eq_false not_false_eq_true decide_false psl_len dsc_len
noncomputable def me1 (f : Int → Int) (U M : List Tr) : List (AV × AV) := M.map fun p => (iv .i64 (ix U p : Nat), iv .i64 (ix U (mp f p) : Nat))
structure MB1 (f : Int → Int) (U M : List Tr) : Prop where
 h : ∀ p ∈ M, p ∈ U ∧ mp f p ∈ U
theorem MB1.pre {f : Int → Int} {U V M : List Tr} (h : MB1 f U M) (hp : U <+: V) : MB1 f V M :=
 ⟨fun p hm => have g := h.h p hm; ⟨mem_of_pre hp g.1, mem_of_pre hp g.2⟩⟩
theorem me1_pre {f : Int → Int} {U V M : List Tr} (h : MB1 f U M) (hp : U <+: V) : me1 f V M = me1 f U M := by
 unfold me1
 refine List.map_congr_left fun p hm => ?_
 obtain ⟨h1, h2⟩ := h.h p hm
 rw [ix_pre hp h1, ix_pre hp h2]
theorem key_one {U : List Tr} {a b : Tr} (ha : a ∈ U) (hb : b ∈ U) : keyEq (iv .i64 (ix U a : Nat)) (iv .i64 (ix U b : Nat)) = decide (a = b) := by
 rw [key_int]
 by_cases e : a = b
 ·simp [e]
 ·have : ix U a ≠ ix U b := fun h => e (ix_inj ha hb h)
  simp [e, this]
theorem mget_me1 {f : Int → Int} {U : List Tr} {t : Tr} (ht : t ∈ U) : ∀ {M : List Tr}, MB1 f U M → mget (iv .i64 (ix U t : Nat)) (me1 f U M) = if t ∈ M then some (iv .i64 (ix U (mp f t) : Nat)) else none
 | [], _ => rfl
 | p :: M, h => by
  have hp := h.h p (.head _)
  have ih := mget_me1 (f := f) ht (M := M) ⟨fun x hx => h.h x (.tail _ hx)⟩
  unfold me1 at ih ⊢
  rw [List.map_cons, mget, key_one ht hp.1, ih]
  by_cases e : t = p
  ·subst e; simp
  ·simp only [e, decide_false, Bool.false_eq_true, if_false, List.mem_cons, false_or]
theorem mset_me1 {f : Int → Int} {U : List Tr} {t : Tr} (ht : t ∈ U) : ∀ {M : List Tr}, MB1 f U M → mset (iv .i64 (ix U t : Nat)) (iv .i64 (ix U (mp f t) : Nat)) (me1 f U M) = me1 f U (insT M t)
 | [], _ => by simp [me1, mset, insT]
 | p :: M, h => by
  have hp := h.h p (.head _)
  have ih := mset_me1 (f := f) ht (M := M) ⟨fun x hx => h.h x (.tail _ hx)⟩
  unfold me1 at ih ⊢
  rw [List.map_cons, mset, key_one ht hp.1, ih]
  by_cases e : t = p
  ·subst e; simp [insT]
  ·unfold insT
   simp only [e, decide_false, Bool.false_eq_true, if_false, List.mem_cons, false_or]
   split <;> simp
theorem MB1.add {f : Int → Int} {U M : List Tr} (h : MB1 f U M) {t : Tr} (ht : t ∈ U) (hj : mp f t ∈ U) : MB1 f U (insT M t) := ⟨fun p hp => by
 unfold insT at hp
 split at hp
 ·exact h.h p hp
 ·rcases List.mem_append.1 hp with hp | hp
  ·exact h.h p hp
  ·rw [List.mem_singleton.1 hp]; exact ⟨ht, hj⟩⟩
theorem c_mapped {f : Int → Int} {K Q : List Int} (hca : ∀ v ∈ K, CT 81 [.data (iv .i64 v), .data (.dp 1 [.sl 1 (ints K)] 0 0), .data (.dp 1 [.sl 1 (ints Q)] 0 0)] { val := iv .i64 (f v), args := [.data (iv .i64 v), .data (.dp 1 [.sl 1 (ints K)] 0 0), .data (.dp 1 [.sl 1 (ints Q)] 0 0)] })
  {W E : List Tr} (hW : Uni W) (hE : Cw E) (hK : ∀ v, .lf v ∈ E → v ∈ K) : ∀ (n : Nat) (U M : List Tr) (t : Tr), t.sz ≤ n → TB W U → t ∈ U → t ∈ E → Ok wid t → mp f t ∈ W → MB1 f U M →
  ∃ U' M', U <+: U' ∧ TB W U' ∧ mp f t ∈ U' ∧ MB1 f U' M' ∧ CT 207 [tpt U, .data (iv .i64 (ix U t : Nat)), .data (rcl K Q), mm1 (me1 f U M)]
   {val := iv .i64 (ix U' (mp f t) : Nat), args := [tpt U', .data (iv .i64 (ix U t : Nat)), .data (rcl K Q), mm1 (me1 f U' M')] } := by
 intro n
 induction n with
 | zero => intro U M t hn; have := sz_pos t; omega
 | succ n ih =>
  intro U M t hn hT ht hte hok hJ hM
  have hmg := mget_me1 ht hM
  have hUl := hT.len hW
  have hnl := nds_length U
  by_cases hm : t ∈ M
  ·rw [if_pos hm] at hmg
   exact ⟨U, M, List.prefix_refl U, hT, (hM.h _ hm).2, hM, c_mhit (nds U) (me1 f U M) K Q _ _ (by omega) hmg⟩
  rw [if_neg hm] at hmg
  have hia := ix_lt ht
  have hga : gn (nds U) (ix U t) = nd U t := by rw [gn_nds hia, get_ix ht]
  cases t with
  | lf x =>
   have hc1 := hca x (hK x hte)
   rw [mp_lf] at hJ
   have hz := (hW.s _ hJ).v
   obtain ⟨ha1, ha2⟩ := addL_nd (t := .lf (f x)) hT.t.clo (by simp [kidsOf])
   have hpre := ins_pre U (.lf (f x))
   have hTV := hT.ins hW hJ (by simp [kidsOf])
   have hmem := mem_ins U (.lf (f x))
   have hms := mset_me1 (f := f) (mem_of_pre hpre ht) (hM.pre hpre)
   have hMV := (hM.pre hpre).add (mem_of_pre hpre ht) (by rw [mp_lf]; exact hmem)
   rw [me1_pre hM hpre, ix_pre hpre ht, mp_lf] at hms
   have hcl := c_TLeaf (nds U) (f x) (sml_nds hT.t.clo (hT.sm hW) hUl) hz (by omega)
   have hnd2 : nd U (.lf (f x)) = ⟨-1, f x, []⟩ := rfl
   rw [hnd2] at ha1 ha2
   rw [ha1, ha2] at hcl
   have hVl := hTV.len hW
   refine ⟨insT U (.lf (f x)), insT M (.lf x), hpre, hTV, by rw [mp_lf]; exact hmem, hMV, ?_⟩
   rw [mp_lf]
   exact c_mlf (nds U) (nds (insT U (.lf (f x)))) (me1 f U M) _ K Q _ _ x (f x) (by omega) (by rw [nds_length]; omega) (by omega) hga hmg hc1 hcl hms
  | br s ks =>
   obtain ⟨hw, hok2⟩ : ks.length = wid s ∧ ∀ k ∈ ks, Ok wid k := by
    cases hok with
    | br _ a _ _ _ b _ => exact ⟨a, b⟩
   have hwb := wid_bd s
   have hs100 : (s : Int) < 100 := (hW.s _ (hT.s _ ht)).s
   have hkU : ∀ k ∈ ks, k ∈ U := hT.t.clo.kids ht
   have hkE : ∀ k ∈ ks, k ∈ E := hE _ hte
   have hJe := mp_br f s ks
   have hJ2 := hJ
   rw [hJe] at hJ2
   have hkW := mkbr_kid hW.c hJ2
   have hgk : ∀ k, k < ks.length → gt ks k ∈ ks := fun k hk => gt_mem hk
   have hkl : (ks.map (mp f)).length = wid s := by rw [List.length_map]; exact hw
   have hkg : ∀ k (h : k < (ks.map (mp f)).length), (ks.map (mp f))[k] = mp f (gt ks k) := fun k h => by rw [List.getElem_map, gt_eq (by rw [List.length_map] at h; exact h)]
   obtain ⟨st, st0, hP, hS⟩ := seq_ex (α := List Tr × List Tr) (fun k x => U <+: x.1 ∧ TB W x.1 ∧ MB1 f x.1 x.2 ∧ ∀ y ∈ (ks.map (mp f)).take k, y ∈ x.1)
    (fun k x y => x.1 <+: y.1 ∧ CT 207 [tpt x.1, .data (iv .i64 (ix U (gt ks k) : Nat)), .data (rcl K Q), mm1 (me1 f x.1 x.2)]
     {val := iv .i64 (ix y.1 (mp f (gt ks k)) : Nat), args := [tpt y.1, .data (iv .i64 (ix U (gt ks k) : Nat)), .data (rcl K Q), mm1 (me1 f y.1 y.2)] })
    (U, M) ⟨List.prefix_refl U, hT, hM, by simp⟩ (wid s) (fun k x hk hx => by
     obtain ⟨p1, p2, p3, p4⟩ := hx
     have hkm := hgk k (by omega)
     have hsz := sz_kid (s := s) hkm
     obtain ⟨U2, M2, r1, r2, r3, r4, r5⟩ := ih x.1 x.2 (gt ks k) (by omega) p2 (mem_of_pre p1 (hkU _ hkm)) (hkE _ hkm) (hok2 _ hkm) (hkW _ (List.mem_map.2 ⟨_, hkm, rfl⟩)) p3
     rw [ix_pre p1 (hkU _ hkm)] at r5
     refine ⟨(U2, M2), ⟨p1.trans r1, r2, r4, fun y hy => ?_⟩, r1, r5⟩
     rw [List.take_succ_eq_append_getElem (by omega)] at hy
     rcases List.mem_append.1 hy with hy | hy
     ·exact mem_of_pre r1 (p4 y hy)
     ·rw [List.mem_singleton.1 hy, hkg]; exact r3)
   have hPn := hP (wid s)
   rw [Nat.min_self, List.take_of_length_le (by omega)] at hPn
   obtain ⟨p1, p2, p3, p4⟩ := hPn
   have hne : ks.map (mp f) ≠ [] := mp_ne hw
   have hpb := brT_pre (st (wid s)).1 s (ks.map (mp f))
   have hTR := p2.br hW hJ2 p4
   have hmem : mp f (.br s ks) ∈ brT (st (wid s)).1 s (ks.map (mp f)) := by rw [hJe]; exact brT_mem p4 hne
   have hpR := p1.trans hpb
   have hms := mset_me1 (f := f) (mem_of_pre hpR ht) (p3.pre hpb)
   rw [me1_pre p3 hpb, ix_pre hpR ht] at hms
   have hbr := c_TBr (st (wid s)).1 s (ks.map (mp f)) p2.t.clo (p2.sm hW) (p2.len hW) p4 hne (by omega) (by omega)
   rw [← hJe, ← krow_all hkl] at hbr
   have hRl := hTR.len hW
   refine ⟨brT (st (wid s)).1 s (ks.map (mp f)), insT (st (wid s)).2 (.br s ks), hpR, hTR, hmem, (p3.pre hpb).add (mem_of_pre hpR ht) hmem, ?_⟩
   have hgi : ∀ k, k < wid s → gi (nd U (.br s ks)).kids k = (ix U (gt ks k) : Int) := fun k hk => by
    rw [gi_kid (t := .br s ks) (by simp only [kidsOf]; omega), gt_eq (by omega)]; rfl
   have hfin := c_mbr (fun k => nds (st k).1) (nds (brT (st (wid s)).1 s (ks.map (mp f)))) (fun k => me1 f (st k).1 (st k).2) _ (nd U (.br s ks)) K Q (ix U (.br s ks)) s (wid s) (ix (brT (st (wid s)).1 s (ks.map (mp f))) (mp f (.br s ks))) (fun k => ix (st (k + 1)).1 (mp f (gt ks k))) (fun k => krow (ks.map (mp f)) (st k).1 (wid s) k)
    (fun k => by rw [nds_length]; exact (hP k).2.1.len hW) (by omega) (by simp only [st0]; omega) (by simp only [st0]; exact hga) (by simp only [st0]; exact hmg)
    rfl (by rw [nd_klen]; exact hw) (fun k hk => by rw [hgi k hk]; exact (hS k hk).2) (by simp [krow]) (fun k hk => krow_len hkl hk) (fun k hk => by
     have h2 := (hP k).2.2.2
     rw [Nat.min_eq_left (by omega)] at h2
     have := krow_set hkl hk h2 (hS k hk).1
     rw [hkg] at this
     exact this) hbr (by rw [nds_length]; omega) hms
   simp only [st0] at hfin
   exact hfin
theorem c_ReplaceT {f : Int → Int} {K : List Int} (hK12 : K.length ≤ 12) (hb : ∀ v ∈ K, -1000 ≤ f v ∧ f v ≤ 1000) (hf : ∀ v, -2 ≤ v → v ≤ 3 → -2 ≤ f v ∧ f v ≤ 9) {t : Tr} {ds : List (Int × List (List Tm))} (h : Rin t ds) (hd : ds.length = 4) (hl : lv (-2) 3 t) (hK : ∀ v, .lf v ∈ enum t [] → v ∈ K) :
  CT 35 [dgt (enum t []), idat K, idat (K.map f)] { val := .tup [.agg [.sl 3 (ns (nds (enum (mp f t) [])))], iv .i64 0], args := [dgt (enum t []), idat K, idat (K.map f)] } := by
 have hc := mp_in (f := f) (fun v h1 h2 => by have := hf v h1 h2; omega) h hl
 have hW := W3_uni h h hc hd (lo := -2) (n := 11) (by omega) (lv_mono (by omega) (by omega) hl) (lv_mono (by omega) (by omega) hl) (mp_lv (fun v h1 h2 => by have := hf v h1 h2; omega) h.ok hl)
 obtain ⟨ta, -⟩ := enum_tab h.ok (by have := h.sz; omega)
 have hU : TB (W3 t t (mp f t)) (enum t []) := ⟨ta, fun x hx => W3_a hx⟩
 have hbg := c_begin1 wid t h.ok (by have := h.sz; omega) (fun x hx => (h.all.1 x hx).2.2)
 obtain ⟨U', M', h1, h2, h3, h4, h5⟩ := c_mapped (f := f) (K := K) (Q := K.map f) (fun v hv => by
  have hx := c_exch K (K.map f) v (by omega) (by simp) hv
  have e : gi (K.map f) (K.idxOf v) = f v := by
   have hl := List.idxOf_lt_length_iff.mpr hv
   unfold gi
   rw [List.getD_eq_getElem?_getD, List.getElem?_map, List.getElem?_eq_getElem hl]
   simp
  rwa [e] at hx) hW enum_cw hK _ _ [] t (Nat.le_refl _) hU (mem_enum t []) (mem_enum t []) h.ok (W3_c (mem_enum _ [])) ⟨fun p hp => by cases hp⟩
 have e0 : me1 f (enum t []) [] = [] := rfl
 rw [e0] at h5
 have hUl := hU.len hW
 have hVl := h2.len hW
 have hj := c_Map _ _ _ K (K.map f) _ _ (by rw [nds_length]; omega) (by rw [nds_length]; omega) h5
 have he := c_end U' (mp f t) h2.t h3 (by have := hc.all.2.1; omega) (by have := hc.sz; omega)
 have ho := c_oneD _ _ _ _ K (K.map f) _ _ (by rw [nds_length]; omega) (by rw [nds_length]; omega) hbg hj he
 exact c_Replace _ _ K (K.map f) (by simp) (by rw [List.length_map]; omega) (fun x hx => by
  obtain ⟨v, hv, rfl⟩ := List.mem_map.1 hx
  have := hb v hv
  omega) ho
end Go.Proofs.YteipiejlljnclaaGreatDoor
end
section
namespace Go.Proofs.YteipiejlljnclaaGreatDoor
open Go Go.AL
attribute [local irreducible] run opK opD callK
attribute [local go_sem] not_true_eq_false not_false_eq_true decide_false psl_len dsc_len
attribute [local simp] keep keepEnv keepRows keepAV keepPl keepBody keepElems keepElem keepCells lget inL normG mc_keep mc_keep0
theorem lvl_mem {v : Int} : ∀ {E : List Tr}, v ∈ lvl E ↔ .lf v ∈ E
 | [] => by simp [lvl]
 | .lf w :: E => by simp [lvl, lvl_mem (E := E)]
 | .br s ks :: E => by simp [lvl, lvl_mem (E := E)]
theorem lvl_nodup : ∀ {E : List Tr}, E.Nodup → (lvl E).Nodup
 | [], _ => List.nodup_nil
 | .lf w :: E, h => by
  have hc := List.nodup_cons.1 h
  rw [lvl]
  exact List.nodup_cons.2 ⟨fun hm => hc.1 (lvl_mem.1 hm), lvl_nodup hc.2⟩
 | .br s ks :: E, h => by rw [lvl]; exact lvl_nodup (List.nodup_cons.1 h).2
theorem vls_mem {v : Int} {E : List Tr} : v ∈ vls E ↔ .lf v ∈ E := ((insA_perm _ _ _).mem_iff).trans lvl_mem
theorem vls_adj {E : List Tr} (h : E.Nodup) (k : Nat) (hk : k + 1 < (vls E).length) : gi (vls E) (k + 1) ≠ gi (vls E) k := by
 have hn : (vls E).Nodup := ((insA_perm _ _ _).nodup_iff).2 (lvl_nodup h)
 have := List.pairwise_iff_getElem.1 hn k (k + 1) (by omega) hk (by omega)
 unfold gi
 rw [List.getD_eq_getElem?_getD, List.getD_eq_getElem?_getD, List.getElem?_eq_getElem hk, List.getElem?_eq_getElem (by omega : k < (vls E).length)]
 exact fun e => this e.symm
theorem lvl_12 {E : List Tr} (h : E.Nodup) (hl : ∀ t ∈ E, lv (-2) 3 t) : (lvl E).length ≤ 12 := by
 have hb : ∀ v ∈ lvl E, -2 ≤ v ∧ v ≤ 3 := fun v hv => by have := hl _ (lvl_mem.1 hv); rw [lv] at this; exact this
 have hnd : ((lvl E).map fun v => (v + 2).toNat).Nodup := List.pairwise_map.2 (List.Pairwise.imp_of_mem (fun {a b} ha hb' hab he => by
  have h1 := hb a ha
  have h2 := hb b hb'
  exact hab (by omega)) (lvl_nodup h))
 have := nodup_bound 6 _ hnd fun x hx => by
  obtain ⟨v, hv, rfl⟩ := List.mem_map.1 hx
  have := hb v hv
  omega
 rw [List.length_map] at this
 omega
abbrev sqz (v : Int) : Int := (v * v).tmod 1000
theorem sqz_bd {v : Int} (h1 : -2 ≤ v) (h2 : v ≤ 3) : 0 ≤ v * v ∧ v * v ≤ 9 ∧ 0 ≤ sqz v ∧ sqz v ≤ 9 := by
 obtain rfl | rfl | rfl | rfl | rfl | rfl : v = -2 ∨ v = -1 ∨ v = 0 ∨ v = 1 ∨ v = 2 ∨ v = 3 := by omega
 all_goals decide
theorem num_fit {p : List Tm} {v : Int} (hp : PQ 180 p) (hv : v.natAbs ≤ 16) : CT 36 [pdat p, .data (qr (v : Rat))] { val := .sl 11 (ps (pmul p (pconst (v : Rat)))), args := [pdat p, .data (qr (v : Rat))] } := by
 refine c_Number p v hp.cn (fun s hs => ⟨(hp.ex s hs).ok (by omega), hp.qz (by omega) s hs, ?_⟩) (Qz.small (by simp; omega) (by simp)) (by have := hp.len2 (by omega); omega)
 have h1 := hp.pb.prods (int_PB v)
 exact h1.qz (fit_of (by omega) (by omega) (by omega)) (t := (s.1.add Mo.zero, s.2 * (v : Rat))) (List.mem_flatMap.2 ⟨s, hs, List.mem_map.2 ⟨_, .head _, rfl⟩⟩)
theorem c_SumI (U : Nat) (p q : List Tm) (hU : U ≤ 1000) (hp : PQ U p) (hq : PQ U q) : CT 22 [pdat p, pdat q] { val := .sl 11 (ps (padd p q)), args := [pdat p, pdat q] } := by
 refine c_Sum p q (120 ^ U) (480 ^ U) (480 ^ U) hp.cn hp.pb hq.pb ?_ (by have := hp.len2 hU; have := hq.len2 hU; omega)
 have := fit_of (U := U) (a := 1) (b := 2) (by omega) (by omega) (by omega)
 rwa [Nat.mul_one, Nat.mul_two] at this
theorem c_Images (l : List Int) (hl : l.length < 4611686018427387904) : CT 10 [idat l] { val := .sc (.bool true), args := [idat l] } := by
 have hn := c_New l hl
 have hlt : (l.take 1000).length < 4611686018427387904 := by rw [List.length_take]; omega
 generalize l.take 1000 = k at *
 have hd1 : CT 20 [sp k 0, .data (iv .i64 0), .data (iv .i64 3)] { val := dg (dia k 4 0 0).1, args := [sp k (dia k 4 0 0).2, .data (iv .i64 0), .data (iv .i64 3)] } := c_Diagram k hlt 3 (by omega) 4 0 0 (by omega) (Nat.zero_le _)
 have hla := dia_lv k 4 0 0 (by omega) (Nat.zero_le _)
 obtain ⟨p1, hp1⟩ : ∃ p, p = (dia k 4 0 0).2 := ⟨_, rfl⟩
 have hle1 : p1 ≤ k.length := by rw [hp1]; exact (dia_ok k 4 0 0 (by omega) (Nat.zero_le _)).2.2.1
 rw [← hp1] at hd1
 have hds : CT 21 [sp k p1, .data (iv .i64 4), .data (iv .i64 2)] { val := .sl 10 (dscs (dst k p1 2 4).1), args := [sp k (dst k p1 2 4).2, .data (iv .i64 4), .data (iv .i64 2)] } := c_Dists k p1 4 2 hlt hle1 (by omega) (by omega)
 have hin := dia_in k 4 0 0 p1 (by omega) (Nat.zero_le _) hle1 (by rw [bw_04]; omega)
 have h4 : (dst k p1 2 4).1.length = 4 := dst_len _ _ _ _
 clear hp1 hle1
 generalize (dia k 4 0 0).1 = t at *
 generalize (dst k p1 2 4).1 = D at *
 generalize (dst k p1 2 4).2 = p3 at *
 have hnd : (enum t []).Nodup := enum_nodup List.nodup_nil
 have hlvs := enum_lv hla
 have h12 := lvl_12 hnd hlvs
 obtain ⟨hx, hen, hc, h0⟩ := hin.all
 have hlf := hin.leaf0
 have hlp : 0 < (lvl (enum t [])).length := by
  obtain ⟨v, hv⟩ := lf_site hlf
  exact List.length_pos_of_mem (lvl_mem.2 (by rw [← hv]; exact gt_mem h0))
 have hvle : (vls (enum t [])).length = (lvl (enum t [])).length := (insA_perm _ _ _).length_eq
 have hcol := c_collect (enum t []) (by omega) (c_Validate wid t hin.ok (by have := hin.sz; omega) fun x hxx => (hx x hxx).2.2) h12 hlp (vls_adj hnd)
 have hval := c_Values (enum t []) _ hcol
 have hKb : ∀ v ∈ vls (enum t []), -2 ≤ v ∧ v ≤ 3 := fun v hv => by have := hlvs _ (vls_mem.1 hv); rw [lv] at this; exact this
 have hfr : ∀ v : Int, -2 ≤ v → v ≤ 3 → -2 ≤ sqz v ∧ sqz v ≤ 9 := fun v a b => by have := sqz_bd a b; omega
 have hrep := c_ReplaceT (f := sqz) (K := vls (enum t [])) (by omega) (fun v hv => by have := hKb v hv; have := hfr v this.1 this.2; omega) hfr hin h4 hla (fun v hv => vls_mem.2 hv)
 have hmi := mp_in (f := sqz) (fun v a b => by have := hfr v a b; omega) hin hla
 have hex := c_Expect (mp sqz t) D hmi
 have hre := c_Reach t D hin
 have heq := exq_mp (f := sqz) (fun v a b => by have := hfr v a b; omega) hin hla
 have hm := hin.masses
 have hxq := hmi.exqQ
 have hml := msA_len (wt (wsO D)) (enum t [])
 have hES := fun n hn => fsum_PQ (f := sqz) (l := enum t []) hm n hn (fun x hxx => by
  cases x with
  | lf v =>
   have h1 := hlvs _ hxx
   rw [lv] at h1
   have := sqz_bd h1.1 h1.2
   simp only [valOf]; omega
  | br s ks => simp [valOf, sqz])
 unfold dg at hd1
 clear hin hmi hnd h12 hlp hcol h4 hla hc hfr
 generalize exq (mp sqz t) D = X at *
 generalize enum (mp sqz t) [] = EX at *
 generalize msA (wt (wsO D)) (enum t []) = m at *
 generalize vls (enum t []) = K at *
 generalize enum t [] = E at *
 have hnl := nds_length E
 have hpl := psl_len m
 have hz : fsum sqz E m 0 = [] := rfl
 have hQl : (K.map sqz).length = K.length := List.length_map _
 have hQt : ∀ i, i < K.length → (K.map sqz).take i ++ [sqz (gi K i)] = (K.map sqz).take (i + 1) := fun i hi => by
  rw [List.take_succ_eq_append_getElem (by omega), List.getElem_map]
  simp [gi, List.getD, hi]
 have hKlv : K.length ≤ 60 := by
  have := lvl_len E
  omega
 refine Ctr.intro ⟨Tryz.f10, _, Tryz.call10, Tryz.func10, fold_body (by rfl) (by kernel_rfl), (by simp [Tryz.ntmps10]), (by simp), (by kernel_rfl), ?_⟩
 refine wks ?_
 refine wk0 ?_
 refine callI (hn) ?_
 refine wk0 ?_
 refine callI (hd1) ?_
 refine wk0 ?_
 refine callI (hds) ?_
 refine wk0 ?_
 refine callI (hval) ?_
 refine wk0 ?_
 refine run_loop [4, 5, 6, 7, 8, 9] [4, 8] (α := {i : Nat // i ≤ K.length})
  (fun i => ⟨[(4, .hp ⟨4, 1⟩ 0 0), (5, .sl 10 (dscs D)), (6, .sl 1 (ints K)), (7, iv .i64 0), (8, .hs ⟨8, 1⟩ 0 i.1), (9, iv .i64 i.1)], [(4, ⟨1, true, true, .cells 1 [.agg [.sl 3 (ns (nds E))]]⟩), (8, ⟨1, true, false, .cells 1 (ints ((K.map sqz).take i.1))⟩)]⟩)
  (fun i => K.length - i.1) ⟨0, Nat.zero_le _⟩ (by first | rfl | simp [tc, qc]) ?_
 rintro ⟨i, hi⟩
 refine wk0 ?_
 refine condK.dec (fun hlt2 => ?_) (fun hlt2 => ?_)
 ·have hiK : i < K.length := by omega
  obtain ⟨b1, b2, b3, b4⟩ := sqz_bd (hKb _ (gi_mem hiK)).1 (hKb _ (gi_mem hiK)).2
  have hQi : (K.map sqz).take i ++ [(gi K i * gi K i).tmod 1000] = (K.map sqz).take (i + 1) := hQt i hiK
  have htt : ((K.map sqz).take i).take i = (K.map sqz).take i := by rw [List.take_take, Nat.min_self]
  have htl : ((K.map sqz).take i).length = i := by rw [List.length_take]; omega
  clear hx hlvs hES hQt hKb hrep hex hre heq hm hval
  refine wk2 @htt @hQi ?_
  refine vcalm (by kernel_rfl) ?_
  refine wk2 @htt @hQi ?_
  exact ⟨⟨i + 1, by omega⟩, (by first | rfl | simp [tc, qc]), by simp only; omega⟩
 have hiK : i = K.length := by omega
 have e : (K.map sqz).take i = K.map sqz := List.take_of_length_le (by omega)
 rw [e, hiK]
 clear hQt hval hKb
 have hQk : (K.map sqz).take K.length = K.map sqz := List.take_of_length_le (by omega)
 refine wk2 @hQl @hQk ?_
 refine callI (hrep) ?_
 refine wk0 ?_
 refine callI (hex) ?_
 refine wk0 ?_
 refine callI (hre) ?_
 refine wk3 @hml @hpl @hnl ?_
 refine run_loop [4, 12, 14, 16, 17] [4, 16] (α := {i : Nat // i ≤ E.length})
  (fun i => match i.1 with
   | 0 => ⟨[(4, .hp ⟨4, 1⟩ 0 0), (12, .sl 11 (ps X)), (14, .sl 1 (psl m)), (16, .hs ⟨16, 1⟩ 0 0), (17, iv .i64 0)], [(4, ⟨1, true, true, .cells 1 [.agg [.sl 3 (ns (nds E))]]⟩), (16, ⟨1, true, false, .cells 11 []⟩)]⟩
   | i + 1 => ⟨[(4, .hp ⟨4, 1⟩ 0 0), (12, .sl 11 (ps X)), (14, .sl 1 (psl m)), (16, .sl 11 (ps (fsum sqz E m (i + 1)))), (17, iv .i64 ((i : Int) + 1))], [(4, ⟨1, true, true, .cells 1 [.agg [.sl 3 (ns (nds E))]]⟩), (16, ⟨1, false, false, .cells 11 []⟩)]⟩) (fun i => E.length - i.1) ⟨0, Nat.zero_le _⟩ (by first | rfl | simp [tc, qc]) ?_
 rintro ⟨i, hi⟩
 cases i with
 | zero =>
  simp only
  have hil : 0 < E.length := by omega
  have hg := gn_nds hil
  obtain ⟨x1, x2, x3⟩ := hx _ (gt_mem hil)
  have hlv := hlvs _ (gt_mem hil)
  have hes : fsum sqz E m (0 + 1) = if siteOf (gt E (0)) < 0 then padd (fsum sqz E m (0)) (pmul (gl m (0)) (pconst (sqz (valOf (gt E (0))) : Int))) else fsum sqz E m (0) := rfl
  have hEi := hES (0) (by omega)
  rw [← gt_eq hil] at hg
  clear hx hES hlvs
  generalize gt E (0) = x at *
  obtain ⟨S', hS'⟩ : ∃ S', fsum sqz E m (0 + 1) = S' := ⟨_, rfl⟩
  rw [hS'] at hes
  generalize fsum sqz E m (0) = S at *
  cases x with
  | lf v =>
   rw [lv] at hlv
   obtain ⟨b1, b2, b3, b4⟩ := sqz_bd hlv.1 hlv.2
   have hnd : nd E (.lf v) = ⟨-1, v, []⟩ := rfl
   rw [hnd] at hg
   rw [if_pos (by simp [siteOf])] at hes
   simp only [valOf] at hes
   have hi1 := c_Int2 (sqz v) (by omega)
   have hai := psl_at m (i := 0) (by omega)
   have hnu := num_fit (hm (0)) (v := sqz v) (by omega)
   have hSn := hEi.len2 (by omega)
   have hpn := (hm (0)).scale (v := sqz v) (by omega)
   have had := c_SumI (182 + (0)) S (pmul (gl m (0)) (pconst (sqz v : Int))) (by omega) hEi (hpn.mono (by omega))
   rw [← hes] at had
   subst hz
   refine wk2 @hg @hai ?_
   refine callI (hi1) ?_
   refine wk1 @qr.eq_1 ?_
   refine callI (hnu) ?_
   refine wk0 ?_
   refine callI (had) ?_
   refine wk0 ?_
   refine vcalm (by kernel_rfl) ?_
   refine wk0 ?_
   refine ⟨⟨0 + 1, by omega⟩, ?_, by simp only <;> omega⟩
   first | (simp only [hS']; exact (by first | rfl | simp [tc, qc])) | (simp only [show fsum sqz E m 1 = S' from hS']; exact (by first | rfl | simp [tc, qc]))
  | br s ks =>
   exact absurd hlf (Int.not_lt.mpr (Int.natCast_nonneg s))
 | succ i =>
  simp only
  refine wk0 ?_
  refine condK.dec (fun hlt => ?_) (fun hlt => ?_)
  ·have hil : i + 1 < E.length := by omega
   clear hlf
   have hg := gn_nds hil
   obtain ⟨x1, x2, x3⟩ := hx _ (gt_mem hil)
   have hlv := hlvs _ (gt_mem hil)
   have hes : fsum sqz E m (i + 1 + 1) = if siteOf (gt E (i + 1)) < 0 then padd (fsum sqz E m (i + 1)) (pmul (gl m (i + 1)) (pconst (sqz (valOf (gt E (i + 1))) : Int))) else fsum sqz E m (i + 1) := rfl
   have hEi := hES (i + 1) (by omega)
   rw [← gt_eq hil] at hg
   clear hx hES hlvs
   generalize gt E (i + 1) = x at *
   obtain ⟨S', hS'⟩ : ∃ S', fsum sqz E m (i + 1 + 1) = S' := ⟨_, rfl⟩
   rw [hS'] at hes
   generalize fsum sqz E m (i + 1) = S at *
   cases x with
   | lf v =>
    rw [lv] at hlv
    obtain ⟨b1, b2, b3, b4⟩ := sqz_bd hlv.1 hlv.2
    have hnd : nd E (.lf v) = ⟨-1, v, []⟩ := rfl
    rw [hnd] at hg
    rw [if_pos (by simp [siteOf])] at hes
    simp only [valOf] at hes
    have hi1 := c_Int2 (sqz v) (by omega)
    have hai := psl_at m (i := i + 1) (by omega)
    have hnu := num_fit (hm (i + 1)) (v := sqz v) (by omega)
    have hSn := hEi.len2 (by omega)
    have hpn := (hm (i + 1)).scale (v := sqz v) (by omega)
    have had := c_SumI (182 + (i + 1)) S (pmul (gl m (i + 1)) (pconst (sqz v : Int))) (by omega) hEi (hpn.mono (by omega))
    rw [← hes] at had
    skip
    refine wk2 @hg @hai ?_
    refine callI (hi1) ?_
    refine wk1 @qr.eq_1 ?_
    refine callI (hnu) ?_
    refine wk0 ?_
    refine callI (had) ?_
    refine wk0 ?_
    refine vcalm (by kernel_rfl) ?_
    refine wk0 ?_
    refine ⟨⟨i + 1 + 1, by omega⟩, ?_, by simp only <;> omega⟩
    first | (simp only [hS']; exact (by first | rfl | simp [tc, qc])) | (simp only [show fsum sqz E m 1 = S' from hS']; exact (by first | rfl | simp [tc, qc]))
   | br s ks =>
    skip
    have hsv : (nd E (.br s ks)).site = (s : Int) := rfl
    rw [if_neg (by simp only [siteOf]; omega)] at hes
    subst hes
    refine wk2 @hg @hsv ?_
    refine ⟨⟨i + 1 + 1, by omega⟩, ?_, by simp only <;> omega⟩
    simp only [hS']
    exact (by first | rfl | simp [tc, qc])
  ·have hil : i + 1 = E.length := by omega
   rw [hil, ← heq]
   have hsa := c_Samep X X (hxq.qz (by omega)) (hxq.qz (by omega)) (by have := hxq.len2 (by omega); omega) (by have := hxq.len2 (by omega); omega)
   rw [decide_eq_true rfl] at hsa
   refine wk0 ?_
   refine callI (hsa) ?_
   refine wk0 ?_
   refine callI (c_awake) ?_
   refine wk0 ?_
   simp [VC]
end Go.Proofs.YteipiejlljnclaaGreatDoor
end
