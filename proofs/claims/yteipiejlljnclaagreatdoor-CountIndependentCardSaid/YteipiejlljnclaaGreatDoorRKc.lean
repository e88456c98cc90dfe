/- Expected values of sums and products of diagrams (plain laws). Conditions stand in each theorem. -/
import Derived.Test.YteipiejlljnclaaGreatDoorRKb
import Derived.Test.YteipiejlljnclaaGreatDoorRKf
import Derived.Test.YteipiejlljnclaaGreatDoorRHg
set_option linter.unusedVariables false
set_option linter.unusedSimpArgs false
set_option maxRecDepth 10000
section
namespace Go.Proofs.YteipiejlljnclaaGreatDoor
open Go Go.AL
def kd (s k : Nat) (t : Tr) : Tr := if siteOf t = s then gt (kidsOf t) k else t
def sj (a b : Tr) : Int := if siteOf a < 0 ∨ (0 ≤ siteOf b ∧ siteOf b < siteOf a) then siteOf b else siteOf a
noncomputable def jn (f : Int → Int → Int) : Nat → Tr → Tr → Tr
 | 0, _, _ => .lf 0
 | n + 1, a, b => if sj a b < 0 then .lf (f (valOf a) (valOf b)) else
   mkbr (sj a b).toNat ((List.range (wid (sj a b).toNat)).map fun k => jn f n (kd (sj a b).toNat k a) (kd (sj a b).toNat k b))
theorem at_site {t : Tr} {s : Nat} (e : siteOf t = s) : ∃ ks, t = .br s ks := by
 cases t with
 | lf v =>
  have e2 : (-1 : Int) = s := e
  omega
 | br s' ks =>
  have e2 : (s' : Int) = s := e
  have e3 : s' = s := by omega
  exact ⟨ks, by rw [e3]⟩
theorem lf_site {t : Tr} (h : siteOf t < 0) : ∃ v, t = .lf v := by
 cases t with
 | lf v => exact ⟨v, rfl⟩
 | br s ks =>
  have e2 : (s : Int) < 0 := h
  omega
theorem kd_br (s k : Nat) (ks : List Tr) : kd s k (.br s ks) = gt ks k := by unfold kd; exact if_pos rfl
theorem kd_no {s k : Nat} {t : Tr} (h : siteOf t ≠ s) : kd s k t = t := by unfold kd; exact if_neg h
theorem sj_neg {a b : Tr} (h : sj a b < 0) : (∃ x, a = .lf x) ∧ ∃ y, b = .lf y := by
 unfold sj at h
 have h1 : siteOf a < 0 ∧ siteOf b < 0 := by
  by_cases c : siteOf a < 0 ∨ (0 ≤ siteOf b ∧ siteOf b < siteOf a)
  ·rw [if_pos c] at h; omega
  ·rw [if_neg c] at h; omega
 exact ⟨lf_site h1.1, lf_site h1.2⟩
theorem sj_le {a b : Tr} (h : ¬ sj a b < 0) : (siteOf a < 0 ∨ ((sj a b).toNat : Int) ≤ siteOf a) ∧ (siteOf b < 0 ∨ ((sj a b).toNat : Int) ≤ siteOf b) ∧ (siteOf a = ((sj a b).toNat : Int) ∨ siteOf b = ((sj a b).toNat : Int)) := by
 unfold sj at h ⊢
 split at h
 ·rename_i h2; rw [if_pos h2]; omega
 ·rename_i h2; rw [if_neg h2]; omega
theorem ev_split {ws : List (List (List Tm))} (hw : WOK ws) {h : Int → Rat} {s : Nat} (hs : s < ws.length) {t : Tr} (hok : Ok wid t) (hsi : siteOf t < 0 ∨ (s : Int) ≤ siteOf t) (F : Mo → Rat) :
  ev (wt ws) h t F = tot (fun k => L (wt ws s k) fun a => ev (wt ws) h (kd s k t) fun b => F (a.add b)) (wid s) := by
 by_cases e : siteOf t = s
 ·obtain ⟨ks, rfl⟩ := at_site e
  have hwk : ks.length = wid s := by cases hok; assumption
  rw [ev, evs_tot, hwk]
  refine tot_congr fun k hkk => ?_
  rw [kd_br]
 ·have : ∀ k, kd s k t = t := fun k => kd_no e
  simp only [this]
  rw [tot_Ls (fun a => ev (wt ws) h t fun b => F (a.add b)) (hw.len s hs), hw.one s hs, pone_L]
  simp only [Mo.zero_add]
theorem kd_ok {w : Nat → Nat} {s k : Nat} {t : Tr} (h : Ok w t) (hk : k < w s) : Ok w (kd s k t) := by
 by_cases e : siteOf t = s
 ·obtain ⟨ks, rfl⟩ := at_site e
  have hwk : ks.length = w s := by cases h; assumption
  rw [kd_br]
  exact h.kid _ (gt_mem (by show k < ks.length; omega))
 ·rw [kd_no e]; exact h
theorem kd_sd {w : Nat → Nat} {s k n : Nat} {t : Tr} (h : Ok w t) (hk : k < w s) (hs : sd n t) : sd n (kd s k t) := by
 by_cases e : siteOf t = s
 ·obtain ⟨ks, rfl⟩ := at_site e
  have hwk : ks.length = w s := by cases h; assumption
  rw [kd_br]
  exact sd_kid hs _ (gt_mem (by show k < ks.length; omega))
 ·rw [kd_no e]; exact hs
theorem kd_site {w : Nat → Nat} {s k : Nat} {t : Tr} (h : Ok w t) (hk : k < w s) (hs : siteOf t < 0 ∨ (s : Int) ≤ siteOf t) : siteOf (kd s k t) < 0 ∨ (s : Int) < siteOf (kd s k t) := by
 by_cases e : siteOf t = s
 ·obtain ⟨ks, rfl⟩ := at_site e
  have hwk : ks.length = w s := by cases h; assumption
  rw [kd_br]
  cases h with
  | br h1 hwk h2 h3 hr hkk ho => exact ho _ (gt_mem (by omega))
 ·rw [kd_no e]; omega
theorem kd_lt {w : Nat → Nat} {s k : Nat} {t : Tr} (h : Ok w t) (hk : k < w s) : (kd s k t).sz ≤ t.sz ∧ (siteOf t = s → (kd s k t).sz < t.sz) := by
 by_cases e : siteOf t = s
 ·obtain ⟨ks, rfl⟩ := at_site e
  have hwk : ks.length = w s := by cases h; assumption
  rw [kd_br]
  have := sz_kid (s := s) (gt_mem (l := ks) (k := k) (by omega))
  exact ⟨by omega, fun _ => this⟩
 ·rw [kd_no e]; exact ⟨Nat.le_refl _, fun h => absurd h e⟩
theorem br_site {n : Nat} {t : Tr} {s : Nat} (h : sd n t) (e : siteOf t = s) : s < n := by
 obtain ⟨ks, rfl⟩ := at_site e
 rw [sd] at h; exact h.1
theorem sj_lt {n : Nat} {a b : Tr} (ha : sd n a) (hb : sd n b) (h : ¬ sj a b < 0) : (sj a b).toNat < n := by
 obtain ⟨_, _, h3⟩ := sj_le h
 exact h3.elim (br_site ha) (br_site hb)
theorem ev_jn {ws : List (List (List Tm))} (hw : WOK ws) {h : Int → Rat} {f : Int → Int → Int} {P : (Mo → Rat) → Tr → Tr → Rat} {R : Tr → Tr → Prop}
  (hl : ∀ F x y, R (.lf x) (.lf y) → h (f x y) * F Mo.zero = P F (.lf x) (.lf y))
  (hb : ∀ F a b, Ok wid a → Ok wid b → sd ws.length a → sd ws.length b → R a b → ¬ sj a b < 0 → P F a b = tot (fun k => L (wt ws (sj a b).toNat k) fun x => P (fun y => F (x.add y)) (kd (sj a b).toNat k a) (kd (sj a b).toNat k b)) (wid (sj a b).toNat))
  (hR : ∀ a b k, Ok wid a → Ok wid b → R a b → ¬ sj a b < 0 → k < wid (sj a b).toNat → R (kd (sj a b).toNat k a) (kd (sj a b).toNat k b)) :
  ∀ n a b, a.sz + b.sz ≤ n → Ok wid a → Ok wid b → sd ws.length a → sd ws.length b → R a b → ∀ F, ev (wt ws) h (jn f n a b) F = P F a b := by
 intro n
 induction n with
 | zero => intro a b hn; have := sz_pos a; omega
 | succ n ih =>
  intro a b hn ha hb' hsa hsb hr F
  rw [jn]
  by_cases hneg : sj a b < 0
  ·rw [if_pos hneg]
   obtain ⟨⟨x, rfl⟩, y, rfl⟩ := sj_neg hneg
   simp only [ev, valOf]
   exact hl F x y hr
  ·rw [if_neg hneg]
   have hsl := sj_lt hsa hsb hneg
   rw [ev_mkbr hw hsl (by simp), evs_tot, List.length_map, List.length_range, hb F a b ha hb' hsa hsb hr hneg]
   refine tot_congr fun k hk => ?_
   have hg : gt ((List.range (wid (sj a b).toNat)).map fun k => jn f n (kd (sj a b).toNat k a) (kd (sj a b).toNat k b)) k = jn f n (kd (sj a b).toNat k a) (kd (sj a b).toNat k b) := by
    rw [gt_eq (by simp; exact hk)]; simp
   rw [hg]
   have h1 := kd_lt (t := a) (s := (sj a b).toNat) ha hk
   have h2 := kd_lt (t := b) (s := (sj a b).toNat) hb' hk
   have h3 := (sj_le hneg).2.2
   have hlt : (kd (sj a b).toNat k a).sz + (kd (sj a b).toNat k b).sz ≤ n := by
    rcases h3 with h3 | h3
    ·have := h1.2 h3; omega
    ·have := h2.2 h3; omega
   have := ih _ _ hlt (kd_ok ha hk) (kd_ok hb' hk) (kd_sd ha hk hsa) (kd_sd hb' hk hsb) (hR a b k ha hb' hr hneg hk)
   simp only [this]
theorem ev_prod {ws : List (List (List Tm))} (hw : WOK ws) {h : Int → Rat} {f : Int → Int → Int} {R : Tr → Tr → Prop} (hl : ∀ x y, R (.lf x) (.lf y) → h (f x y) = h x * h y)
  (hR : ∀ a b k, Ok wid a → Ok wid b → R a b → ¬ sj a b < 0 → k < wid (sj a b).toNat → R (kd (sj a b).toNat k a) (kd (sj a b).toNat k b))
  (hsep : ∀ a b, R a b → 0 ≤ siteOf a → siteOf b < 0 ∨ siteOf a < siteOf b)
  {n : Nat} {a b : Tr} (hn : a.sz + b.sz ≤ n) (ha : Ok wid a) (hb : Ok wid b) (hsa : sd ws.length a) (hsb : sd ws.length b) (hr : R a b) (F : Mo → Rat) :
  ev (wt ws) h (jn f n a b) F = ev (wt ws) h a fun x => ev (wt ws) h b fun y => F (x.add y) := by
 refine ev_jn hw (P := fun F a b => ev (wt ws) h a fun x => ev (wt ws) h b fun y => F (x.add y)) (R := R) (fun F x y hxy => ?_) (fun F a b ha hb hsa hsb hr hneg => ?_) hR n a b hn ha hb hsa hsb hr F
 ·simp only [ev, Mo.add_zero]; rw [hl x y hxy, Rat.mul_assoc]
 ·obtain ⟨h1, h2, h3⟩ := sj_le hneg
  have hsl := sj_lt hsa hsb hneg
  by_cases hsa0 : siteOf a < 0
  ·obtain ⟨v, rfl⟩ := lf_site hsa0
   have hk : ∀ s k, kd s k (.lf v) = .lf v := fun s k => kd_no (by
    have : siteOf (.lf v) = -1 := rfl
    omega)
   simp only [hk, ev, Mo.add_zero, Mo.zero_add]
   rw [ev_split hw hsl hb h2 F, ← tot_mul]
   refine tot_congr fun k hk => ?_
   rw [← L_mulc]
  ·have hs2 := hsep _ _ hr (by omega)
   have hk : ∀ k, kd (sj a b).toNat k b = b := fun k => kd_no (by omega)
   simp only [hk]
   rw [ev_split hw hsl ha h1]
   refine tot_congr fun k hk => ?_
   simp only [Mo.add_assoc]
end Go.Proofs.YteipiejlljnclaaGreatDoor
end
section
namespace Go.Proofs.YteipiejlljnclaaGreatDoor
open Go Go.AL
theorem bw_mono (f : Nat) : ∀ d k, bw (f + d) k ≤ bw f (k + d)
 | 0, k => Nat.le_refl _
 | d + 1, k => by
  have h1 := bw_mono (f + 1) d k
  have h2 := bw_le f (k + d)
  rw [show f + (d + 1) = f + 1 + d by omega]
  exact Nat.le_trans h1 h2
theorem szs_bound {S : Nat} : ∀ {ks : List Tr}, (∀ k ∈ ks, k.sz ≤ S) → szs ks ≤ ks.length * S
 | [], _ => by simp [szs]
 | k :: ks, h => by
  have h1 := h k (.head _)
  have h2 := szs_bound (ks := ks) fun x hx => h x (.tail _ hx)
  rw [szs, List.length_cons, Nat.add_mul, Nat.one_mul]
  omega
theorem sz_bound : ∀ {t : Tr} {f k : Nat}, Ok wid t → sd (f + k) t → (siteOf t < 0 ∨ (f : Int) ≤ siteOf t) → t.sz ≤ bw f k := by
 intro t
 induction t using Tr.ind with
 | hl v => intro f k _ _ _; rw [Tr.sz]; exact bw_pos _ _
 | hb s ks ih =>
  intro f k hok hsd hs
  cases hok with
  | br h1 hwk h2 h3 hr hk ho =>
   rw [sd, sds_iff] at hsd
   have hsf : f ≤ s := by simp only [siteOf] at hs; omega
   obtain ⟨d, rfl⟩ := Nat.exists_eq_add_of_le hsf
   obtain ⟨j, rfl⟩ : ∃ j, k = j + 1 + d := ⟨k - 1 - d, by omega⟩
   have hkk : ∀ x ∈ ks, x.sz ≤ bw (f + d + 1) j := fun x hx => ih x hx (hk x hx) (by
    have := hsd.2 x hx
    rwa [show f + (j + 1 + d) = f + d + 1 + j by omega] at this) (by have := ho x hx; omega)
   have h4 := szs_bound hkk
   have h5 := bw_mono f d (j + 1)
   rw [Tr.sz]
   have h6 : bw (f + d) (j + 1) = 1 + wid (f + d) * bw (f + d + 1) j := rfl
   rw [hwk] at h4
   omega
mutual
def lv (lo hi : Int) : Tr → Prop
 | .lf v => lo ≤ v ∧ v ≤ hi
 | .br _ ks => lvs lo hi ks
def lvs (lo hi : Int) : List Tr → Prop
 | [] => True
 | t :: ks => lv lo hi t ∧ lvs lo hi ks
end
theorem lvs_iff {lo hi : Int} : ∀ {ks : List Tr}, lvs lo hi ks ↔ ∀ t ∈ ks, lv lo hi t
 | [] => ⟨fun _ t h => (by cases h), fun _ => trivial⟩
 | t :: ks => by
  rw [lvs, lvs_iff]
  exact ⟨fun h x hx => (List.mem_cons.1 hx).elim (fun e => e ▸ h.1) (h.2 x), fun h => ⟨h t (.head _), fun x hx => h x (.tail _ hx)⟩⟩
theorem mkbr_lv {lo hi : Int} {s : Nat} {ks : List Tr} (h : ∀ k ∈ ks, lv lo hi k) (h0 : ks ≠ []) : lv lo hi (mkbr s ks) := by
 unfold mkbr
 split
 ·cases ks with
  | nil => exact absurd rfl h0
  | cons k ks => exact h k (.head _)
 ·rw [lv, lvs_iff]; exact h
theorem lv_kid {lo hi : Int} {t : Tr} (h : lv lo hi t) : ∀ k ∈ kidsOf t, lv lo hi k := by
 cases t with
 | lf v => intro k hk; cases hk
 | br s ks => rw [lv] at h; exact lvs_iff.1 h
theorem kd_lv {w : Nat → Nat} {lo hi : Int} {s k : Nat} {t : Tr} (h : Ok w t) (hk : k < w s) (hv : lv lo hi t) : lv lo hi (kd s k t) := by
 by_cases e : siteOf t = s
 ·obtain ⟨ks, rfl⟩ := at_site e
  have hwk : ks.length = w s := by cases h; assumption
  rw [kd_br]
  exact lv_kid hv _ (gt_mem (by show k < ks.length; omega))
 ·rw [kd_no e]; exact hv
theorem dia_lv (l : List Int) : ∀ (k f a : Nat), f + k ≤ 64 → a ≤ l.length → lv (-2) 3 (dia l k f a).1 := by
 intro k
 have hlf : ∀ a, lv (-2) 3 (leafR l a).1 := fun a => by
  have := rdN_lt l a (n := 6) (by decide)
  rw [leafR, lv]
  omega
 induction k with
 | zero => intro f a h ha; exact hlf a
 | succ k ih =>
  intro f a h ha
  have h1 := rdN_le l a 5 ha
  have h2 := rdN_le l (rdN l a 5).2 4 h1
  rw [dia]
  split
  ·exact hlf _
  ·split
   ·exact ih (f + 1) _ (by omega) h2
   ·generalize (rdN l (rdN l a 5).2 4).2 = b at *
    have hg : ∀ a, a ≤ l.length → (dia l k (f + 1) a).2 ≤ l.length := fun a ha => (dia_ok l k (f + 1) a (by omega) ha).2.2.1
    have ho := drs_all hg (p := fun t => lv (-2) 3 t) (fun a ha => ih (f + 1) a (by omega) ha) (wid f) b h2
    have hl := drs_len (dia l k (f + 1)) (wid f) b
    have hw := wid_bd f
    exact mkbr_lv ho fun e => by rw [e] at hl; simp at hl; omega
theorem jn_all {f : Int → Int → Int} {p : Tr → Prop} {R : Tr → Tr → Prop} (hl : ∀ x y, R (.lf x) (.lf y) → p (.lf (f x y)))
  (hb : ∀ a b ks, Ok wid a → Ok wid b → R a b → ¬ sj a b < 0 → ks.length = wid (sj a b).toNat → (∀ k ∈ ks, p k) → p (mkbr (sj a b).toNat ks))
  (hR : ∀ a b k, Ok wid a → Ok wid b → R a b → ¬ sj a b < 0 → k < wid (sj a b).toNat → R (kd (sj a b).toNat k a) (kd (sj a b).toNat k b)) :
  ∀ n a b, a.sz + b.sz ≤ n → Ok wid a → Ok wid b → R a b → p (jn f n a b) := by
 intro n
 induction n with
 | zero => intro a b hn; have := sz_pos a; omega
 | succ n ih =>
  intro a b hn ha hb' hr
  rw [jn]
  by_cases hneg : sj a b < 0
  ·rw [if_pos hneg]
   obtain ⟨⟨x, rfl⟩, y, rfl⟩ := sj_neg hneg
   exact hl x y hr
  ·rw [if_neg hneg]
   refine hb a b _ ha hb' hr hneg (by simp) fun q hq => ?_
   obtain ⟨k, hk, rfl⟩ := List.mem_map.1 hq
   have hk := List.mem_range.1 hk
   have h1 := kd_lt (t := a) (s := (sj a b).toNat) ha hk
   have h2 := kd_lt (t := b) (s := (sj a b).toNat) hb' hk
   refine ih _ _ ?_ (kd_ok ha hk) (kd_ok hb' hk) (hR a b k ha hb' hr hneg hk)
   rcases (sj_le hneg).2.2 with h3 | h3
   ·have := h1.2 h3; omega
   ·have := h2.2 h3; omega
theorem wid_ne {s : Nat} {ks : List Tr} (h : ks.length = wid s) : ks ≠ [] := fun e => by
 have := wid_bd s
 rw [e] at h; simp at h; omega
theorem jn_sd {f : Int → Int → Int} {n N : Nat} {a b : Tr} (hn : a.sz + b.sz ≤ n) (ha : Ok wid a) (hb : Ok wid b) {lo hi : Int}
  (hv : ∀ x y, lo ≤ x → x ≤ hi → lo ≤ y → y ≤ hi → -17 < f x y ∧ f x y < 17) (hsa : sd N a) (hsb : sd N b) (hla : lv lo hi a) (hlb : lv lo hi b) : sd N (jn f n a b) :=
 jn_all (p := fun t => sd N t) (R := fun a b => sd N a ∧ sd N b ∧ lv lo hi a ∧ lv lo hi b)
  (fun x y h => by
   have h1 := h.2.2.1
   have h2 := h.2.2.2
   rw [lv] at h1 h2
   rw [sd]
   exact hv x y h1.1 h1.2 h2.1 h2.2)
  (fun a b ks ha hb h hneg hl hk => mkbr_sd (sj_lt h.1 h.2.1 hneg) hk (wid_ne hl))
  (fun a b k ha hb h hneg hk => ⟨kd_sd ha hk h.1, kd_sd hb hk h.2.1, kd_lv ha hk h.2.2.1, kd_lv hb hk h.2.2.2⟩) n a b hn ha hb ⟨hsa, hsb, hla, hlb⟩
theorem jn_site {f : Int → Int → Int} : ∀ (n : Nat) (a b : Tr) (m : Int), a.sz + b.sz ≤ n → Ok wid a → Ok wid b → (siteOf a < 0 ∨ m ≤ siteOf a) → (siteOf b < 0 ∨ m ≤ siteOf b) → siteOf (jn f n a b) < 0 ∨ m ≤ siteOf (jn f n a b) := by
 intro n
 induction n with
 | zero => intro a b m hn; have := sz_pos a; omega
 | succ n ih =>
  intro a b m hn ha hb hma hmb
  rw [jn]
  by_cases hneg : sj a b < 0
  ·rw [if_pos hneg]; left; simp [siteOf]
  ·rw [if_neg hneg]
   obtain ⟨h1, h2, h3⟩ := sj_le hneg
   have hm : m ≤ ((sj a b).toNat : Int) := by omega
   have hk : ∀ k ∈ (List.range (wid (sj a b).toNat)).map fun k => jn f n (kd (sj a b).toNat k a) (kd (sj a b).toNat k b), siteOf k < 0 ∨ ((sj a b).toNat : Int) < siteOf k := by
    intro q hq
    obtain ⟨k, hk, rfl⟩ := List.mem_map.1 hq
    have hk := List.mem_range.1 hk
    have g1 := kd_lt (t := a) (s := (sj a b).toNat) ha hk
    have g2 := kd_lt (t := b) (s := (sj a b).toNat) hb hk
    have hlt : (kd (sj a b).toNat k a).sz + (kd (sj a b).toNat k b).sz ≤ n := by
     rcases h3 with h3 | h3
     ·have := g1.2 h3; omega
     ·have := g2.2 h3; omega
    have := ih _ _ (((sj a b).toNat : Int) + 1) hlt (kd_ok ha hk) (kd_ok hb hk) (by have := kd_site ha hk h1; omega) (by have := kd_site hb hk h2; omega)
    omega
   have := mkbr_site (wid_ne (s := (sj a b).toNat) (by simp)) hk
   omega
theorem jn_ok {f : Int → Int → Int} {N : Nat} (hN : N ≤ 64) (hf : ∀ x y, -1073741824 ≤ f x y ∧ f x y ≤ 1073741824) : ∀ (n : Nat) (a b : Tr), a.sz + b.sz ≤ n → Ok wid a → Ok wid b → sd N a → sd N b → Ok wid (jn f n a b) := by
 intro n
 induction n with
 | zero => intro a b hn; have := sz_pos a; omega
 | succ n ih =>
  intro a b hn ha hb hsa hsb
  rw [jn]
  by_cases hneg : sj a b < 0
  ·rw [if_pos hneg]; exact .lf (hf _ _).1 (hf _ _).2
  ·rw [if_neg hneg]
   obtain ⟨h1, h2, h3⟩ := sj_le hneg
   have hs := sj_lt hsa hsb hneg
   have hlt : ∀ k, k < wid (sj a b).toNat → (kd (sj a b).toNat k a).sz + (kd (sj a b).toNat k b).sz ≤ n := fun k hk => by
    have g1 := kd_lt (t := a) (s := (sj a b).toNat) ha hk
    have g2 := kd_lt (t := b) (s := (sj a b).toNat) hb hk
    rcases h3 with h3 | h3
    ·have := g1.2 h3; omega
    ·have := g2.2 h3; omega
   refine mkbr_ok (by omega) (by simp) (fun q hq => ?_) fun q hq => ?_
   ·obtain ⟨k, hk, rfl⟩ := List.mem_map.1 hq
    have hk := List.mem_range.1 hk
    exact ih _ _ (hlt k hk) (kd_ok ha hk) (kd_ok hb hk) (kd_sd ha hk hsa) (kd_sd hb hk hsb)
   ·obtain ⟨k, hk, rfl⟩ := List.mem_map.1 hq
    have hk := List.mem_range.1 hk
    have := jn_site (f := f) n _ _ (((sj a b).toNat : Int) + 1) (hlt k hk) (kd_ok ha hk) (kd_ok hb hk) (by have := kd_site ha hk h1; omega) (by have := kd_site hb hk h2; omega)
    omega
theorem jn_in {f : Int → Int → Int} (hf : ∀ x y, -1073741824 ≤ f x y ∧ f x y ≤ 1073741824) (hv : ∀ x y, -2 ≤ x → x ≤ 3 → -2 ≤ y → y ≤ 3 → -17 < f x y ∧ f x y < 17) {a b : Tr} {ds : List (Int × List (List Tm))} (ha : Rin a ds) (hb : Rin b ds) (hd : ds.length = 4)
  (hla : lv (-2) 3 a) (hlb : lv (-2) 3 b) : Rin (jn f (a.sz + b.sz) a b) ds := by
 have h1 := jn_ok (N := ds.length) (by omega) hf _ a b (Nat.le_refl _) ha.ok hb.ok ha.sb hb.sb
 have h2 := jn_sd (f := f) (N := ds.length) (Nat.le_refl _) ha.ok hb.ok hv ha.sb hb.sb hla hlb
 have h3 := sz_bound (f := 0) (k := 4) h1 (by rw [hd] at h2; exact h2) (by
  cases jn f (a.sz + b.sz) a b with
  | lf v => left; simp [siteOf]
  | br s ks => right; simp only [siteOf]; omega)
 rw [bw_04] at h3
 exact ⟨h1, by omega, h2, ha.w, ha.dl⟩
theorem kd_ge {w : Nat → Nat} {s k : Nat} {m : Int} {t : Tr} (h : Ok w t) (hk : k < w s) (hs : siteOf t < 0 ∨ m ≤ siteOf t) : siteOf (kd s k t) < 0 ∨ m ≤ siteOf (kd s k t) := by
 by_cases e : siteOf t = s
 ·have := kd_site (s := s) h hk (by omega)
  omega
 ·rw [kd_no e]; exact hs
theorem exq_prod {f : Int → Int → Int} (hf : ∀ x y, -2 ≤ x → x ≤ 3 → -2 ≤ y → y ≤ 3 → f x y = x * y) {a b : Tr} {ds : List (Int × List (List Tm))} (ha : Rin a ds) (hb : Rin b ds) (hla : lv (-2) 3 a) (hlb : lv (-2) 3 b) (ha2 : sd 2 a) (hb2 : siteOf b < 0 ∨ 2 ≤ siteOf b) :
  exq (jn f (a.sz + b.sz) a b) ds = pmul (exq a ds) (exq b ds) := by
 refine (exq_Cn _ _).ext (pmul_Cn _ _) fun F => ?_
 rw [pmul_L]
 simp only [exq_L]
 refine ev_prod ha.w (R := fun a b => (lv (-2) 3 a ∧ lv (-2) 3 b) ∧ sd 2 a ∧ (siteOf b < 0 ∨ 2 ≤ siteOf b)) (fun x y h => ?_) (fun a b k ha hb h hneg hk => ⟨⟨kd_lv ha hk h.1.1, kd_lv hb hk h.1.2⟩, kd_sd ha hk h.2.1, kd_ge hb hk h.2.2⟩) (fun a b h h0 => ?_) (Nat.le_refl _) ha.ok hb.ok (by rw [List.length_map]; exact ha.sb) (by rw [List.length_map]; exact hb.sb) ⟨⟨hla, hlb⟩, ha2, hb2⟩ F
 ·have h1 := h.1.1
  have h2 := h.1.2
  rw [lv] at h1 h2
  rw [hf x y h1.1 h1.2 h2.1 h2.2, Rat.intCast_mul]
 ·obtain ⟨s, hs⟩ : ∃ s : Nat, siteOf a = s := ⟨(siteOf a).toNat, by omega⟩
  have := br_site h.2.1 hs
  omega
end Go.Proofs.YteipiejlljnclaaGreatDoor
end
section
namespace Go.Proofs.YteipiejlljnclaaGreatDoor
open Go Go.AL
mutual
def nb : Tr → Nat
 | .lf _ => 0
 | .br _ ks => 1 + nbs ks
def nbs : List Tr → Nat
 | [] => 0
 | k :: ks => nb k + nbs ks
end
def bb : Nat → Nat → Nat
 | _, 0 => 0
 | f, k + 1 => 1 + wid f * bb (f + 1) k
theorem bb_le (f k : Nat) : bb (f + 1) k ≤ bb f (k + 1) := by
 have h := (wid_bd f).1
 rw [bb]
 calc bb (f + 1) k ≤ wid f * bb (f + 1) k := Nat.le_mul_of_pos_left _ (by omega)
  _ ≤ _ := Nat.le_add_left _ _
theorem bb_mono (f : Nat) : ∀ d k, bb (f + d) k ≤ bb f (k + d)
 | 0, k => Nat.le_refl _
 | d + 1, k => by
  have h1 := bb_mono (f + 1) d k
  have h2 := bb_le f (k + d)
  rw [show f + (d + 1) = f + 1 + d by omega]
  exact Nat.le_trans h1 h2
theorem nbs_bound {S : Nat} : ∀ {ks : List Tr}, (∀ k ∈ ks, nb k ≤ S) → nbs ks ≤ ks.length * S
 | [], _ => by simp [nbs]
 | k :: ks, h => by
  have h1 := h k (.head _)
  have h2 := nbs_bound (ks := ks) fun x hx => h x (.tail _ hx)
  rw [nbs, List.length_cons, Nat.add_mul, Nat.one_mul]
  omega
theorem nb_bound : ∀ {t : Tr} {f k : Nat}, Ok wid t → sd (f + k) t → (siteOf t < 0 ∨ (f : Int) ≤ siteOf t) → nb t ≤ bb f k := by
 intro t
 induction t using Tr.ind with
 | hl v => intro f k _ _ _; rw [nb]; exact Nat.zero_le _
 | hb s ks ih =>
  intro f k hok hsd hs
  cases hok with
  | br h1 hwk h2 h3 hr hk ho =>
   rw [sd, sds_iff] at hsd
   have hsf : f ≤ s := by simp only [siteOf] at hs; omega
   obtain ⟨d, rfl⟩ := Nat.exists_eq_add_of_le hsf
   obtain ⟨j, rfl⟩ : ∃ j, k = j + 1 + d := ⟨k - 1 - d, by omega⟩
   have hkk : ∀ x ∈ ks, nb x ≤ bb (f + d + 1) j := fun x hx => ih x hx (hk x hx) (by
    have := hsd.2 x hx
    rwa [show f + (j + 1 + d) = f + d + 1 + j by omega] at this) (by have := ho x hx; omega)
   have h4 := nbs_bound hkk
   have h5 := bb_mono f d (j + 1)
   rw [nb]
   have h6 : bb (f + d) (j + 1) = 1 + wid (f + d) * bb (f + d + 1) j := rfl
   rw [hwk] at h4
   omega
theorem bb_04 : bb 0 4 = 21 := by decide
def isB : Tr → Bool
 | .lf _ => false
 | .br _ _ => true
theorem enum_nb' : (∀ t l, ((enum t l).filter isB).length ≤ (l.filter isB).length + nb t) ∧ (∀ ks l, ((enums ks l).filter isB).length ≤ (l.filter isB).length + nbs ks) := by
 have key : ∀ t, ∀ l : List Tr, ((enum t l).filter isB).length ≤ (l.filter isB).length + nb t := by
  intro t
  induction t using Tr.ind with
  | hl v =>
   intro l
   by_cases hm : Tr.lf v ∈ l
   ·rw [enum_of_mem hm]; omega
   ·rw [enum_of_not hm]; simp [kidsOf, isB]
  | hb s ks ih =>
   intro l
   by_cases hm : Tr.br s ks ∈ l
   ·rw [enum_of_mem hm]; omega
   ·rw [enum_of_not hm]
    have hks : ∀ (ks' : List Tr), (∀ k ∈ ks', k ∈ ks) → ∀ l : List Tr, ((enums ks' l).filter isB).length ≤ (l.filter isB).length + nbs ks' := by
     intro ks'
     induction ks' with
     | nil => intro _ l; simp [nbs]
     | cons k ks' ihk =>
      intro hsub l
      rw [enums_cons]
      have h1 := ihk (fun x hx => hsub x (.tail _ hx)) (enum k l)
      have h2 := ih k (hsub k (.head _)) l
      rw [nbs]; omega
    have := hks ks (fun _ h => h) l
    simp only [kidsOf, List.filter_append, List.length_append]
    rw [nb]
    have : ([Tr.br s ks].filter isB).length = 1 := rfl
    omega
 refine ⟨key, ?_⟩
 intro ks
 induction ks with
 | nil => intro l; simp [nbs]
 | cons k ks ihk =>
  intro l
  rw [enums_cons, nbs]
  have h1 := ihk (enum k l)
  have h2 := key k l
  omega
theorem nodes_le {U : List Tr} {lo : Int} {n : Nat} (hn : U.Nodup) (h : ∀ t ∈ U, lv lo (lo + n) t) : U.length ≤ n + 1 + (U.filter isB).length := by
 have h1 : U.length = (U.filter isB).length + (U.filter fun t => !isB t).length := by
  have key : ∀ U : List Tr, U.length = (U.filter isB).length + (U.filter fun t => !isB t).length := by
   intro U
   induction U with
   | nil => rfl
   | cons t U ih =>
    rw [List.filter_cons, List.filter_cons, List.length_cons, ih]
    cases isB t <;> simp <;> omega
  exact key U
 have h2 : (U.filter fun t => !isB t).length ≤ n + 1 := by
  have hnd : ((U.filter fun t => !isB t).map fun t => (valOf t - lo).toNat).Nodup := by
   refine List.pairwise_map.2 (List.Pairwise.imp_of_mem (fun {a b} ha hb hab he => ?_) (hn.filter _))
   obtain ⟨ha1, ha2⟩ := List.mem_filter.1 ha
   obtain ⟨hb1, hb2⟩ := List.mem_filter.1 hb
   cases a with
   | br s ks => simp [isB] at ha2
   | lf x =>
    cases b with
    | br s ks => simp [isB] at hb2
    | lf y =>
     have g1 := h _ ha1
     have g2 := h _ hb1
     rw [lv] at g1 g2
     simp only [valOf] at he
     have : x = y := by omega
     exact hab (by rw [this])
  have := nodup_bound (n + 1) _ hnd fun x hx => by
   obtain ⟨t, ht, rfl⟩ := List.mem_map.1 hx
   obtain ⟨ht1, ht2⟩ := List.mem_filter.1 ht
   cases t with
   | br s ks => simp [isB] at ht2
   | lf v =>
    have g := h _ ht1
    rw [lv] at g
    show (v - lo).toNat < n + 1
    omega
  rwa [List.length_map] at this
 omega
end Go.Proofs.YteipiejlljnclaaGreatDoor
end
section
namespace Go.Proofs.YteipiejlljnclaaGreatDoor
open Go
theorem kd_dec {a b : Tr} {k : Nat} (ha : Ok wid a) (hb : Ok wid b) (hneg : ¬ sj a b < 0) (hk : k < wid (sj a b).toNat) : (kd (sj a b).toNat k a).sz + (kd (sj a b).toNat k b).sz < a.sz + b.sz := by
 have h1 := kd_lt (t := a) (s := (sj a b).toNat) ha hk
 have h2 := kd_lt (t := b) (s := (sj a b).toNat) hb hk
 rcases (sj_le hneg).2.2 with h3 | h3
 ·have := h1.2 h3; omega
 ·have := h2.2 h3; omega
theorem jn_fuel {f : Int → Int → Int} : ∀ (n m : Nat) (a b : Tr), a.sz + b.sz ≤ n → a.sz + b.sz ≤ m → Ok wid a → Ok wid b → jn f n a b = jn f m a b
 | 0, _, a, b, h, _, _, _ => by have := sz_pos a; omega
 | _ + 1, 0, a, b, _, h, _, _ => by have := sz_pos a; omega
 | n + 1, m + 1, a, b, h1, h2, ha, hb => by
  rw [jn, jn]
  by_cases hneg : sj a b < 0
  ·rw [if_pos hneg, if_pos hneg]
  ·rw [if_neg hneg, if_neg hneg]
   congr 1
   refine List.map_congr_left fun k hk => ?_
   have hk := List.mem_range.1 hk
   have := kd_dec ha hb hneg hk
   exact jn_fuel n m _ _ (by omega) (by omega) (kd_ok ha hk) (kd_ok hb hk)
noncomputable def J (f : Int → Int → Int) (a b : Tr) : Tr := jn f (a.sz + b.sz) a b
noncomputable def Jk (f : Int → Int → Int) (a b : Tr) : List Tr := (List.range (wid (sj a b).toNat)).map fun k => J f (kd (sj a b).toNat k a) (kd (sj a b).toNat k b)
theorem J_lf {f : Int → Int → Int} {a b : Tr} (h : sj a b < 0) : J f a b = .lf (f (valOf a) (valOf b)) := by
 unfold J
 obtain ⟨n, hn⟩ : ∃ n, a.sz + b.sz = n + 1 := ⟨a.sz + b.sz - 1, by have := sz_pos a; omega⟩
 rw [hn, jn, if_pos h]
theorem J_br {f : Int → Int → Int} {a b : Tr} (ha : Ok wid a) (hb : Ok wid b) (h : ¬ sj a b < 0) : J f a b = mkbr (sj a b).toNat (Jk f a b) := by
 obtain ⟨n, hn⟩ : ∃ n, a.sz + b.sz = n + 1 := ⟨a.sz + b.sz - 1, by have := sz_pos a; omega⟩
 have e : J f a b = jn f (n + 1) a b := by unfold J; rw [hn]
 rw [e, jn, if_neg h]
 unfold Jk J
 congr 1
 refine List.map_congr_left fun k hk => ?_
 have hk := List.mem_range.1 hk
 have := kd_dec ha hb h hk
 exact jn_fuel _ _ _ _ (by omega) (Nat.le_refl _) (kd_ok ha hk) (kd_ok hb hk)
def Cw (W : List Tr) : Prop := ∀ t ∈ W, ∀ k ∈ kidsOf t, k ∈ W
theorem mkbr_kid {W : List Tr} (hc : Cw W) {s : Nat} {ks : List Tr} (h : mkbr s ks ∈ W) : ∀ k ∈ ks, k ∈ W := by
 unfold mkbr at h
 split at h
 ·rename_i hs
  cases ks with
  | nil => intro k hk; cases hk
  | cons a ks =>
   intro k hk
   rcases List.mem_cons.1 hk with rfl | hk
   ·exact h
   ·rw [hs k hk]; exact h
 ·exact hc _ h
theorem J_kid {W : List Tr} (hc : Cw W) {f : Int → Int → Int} {a b : Tr} (ha : Ok wid a) (hb : Ok wid b) (h : J f a b ∈ W) (hneg : ¬ sj a b < 0) {k : Nat} (hk : k < wid (sj a b).toNat) : J f (kd (sj a b).toNat k a) (kd (sj a b).toNat k b) ∈ W := by
 rw [J_br ha hb hneg] at h
 exact mkbr_kid hc h _ (List.mem_map.2 ⟨k, List.mem_range.2 hk, rfl⟩)
structure Uni (W : List Tr) : Prop where
 c : Cw W
 s : ∀ t ∈ W, SmT t
 l : W.length < 100
structure TB (W U : List Tr) : Prop where
 t : Tab U
 s : ∀ x ∈ U, x ∈ W
theorem nodup_len : ∀ {U W : List Tr}, U.Nodup → (∀ t ∈ U, t ∈ W) → U.length ≤ W.length
 | [], W, _, _ => Nat.zero_le _
 | t :: U, W, hn, h => by
  have ht := h t (.head _)
  have hc := List.nodup_cons.1 hn
  have h2 := nodup_len (U := U) (W := W.erase t) hc.2 (fun x hx => (List.mem_erase_of_ne (by rintro rfl; exact hc.1 hx)).2 (h x (.tail _ hx)))
  rw [List.length_erase_of_mem ht] at h2
  have := List.length_pos_of_mem ht
  rw [List.length_cons]
  omega
theorem TB.len {W U : List Tr} (hW : Uni W) (h : TB W U) : U.length < 100 := Nat.lt_of_le_of_lt (nodup_len h.t.nod h.s) hW.l
theorem TB.sm {W U : List Tr} (hW : Uni W) (h : TB W U) : ∀ t ∈ U, SmT t := fun t ht => hW.s t (h.s t ht)
theorem TB.ins {W U : List Tr} (hW : Uni W) (h : TB W U) {t : Tr} (ht : t ∈ W) (hk : ∀ k ∈ kidsOf t, k ∈ U) : TB W (insT U t) := by
 have h1 := TB.len hW h
 have h2 := ins_len U t
 have h3 := (hW.s t ht).k
 refine ⟨ins_tab h.t hk (by omega) (by omega), fun x hx => ?_⟩
 unfold insT at hx
 split at hx
 ·exact h.s x hx
 ·rcases List.mem_append.1 hx with hx | hx
  ·exact h.s x hx
  ·rw [List.mem_singleton.1 hx]; exact ht
theorem TB.br {W U : List Tr} (hW : Uni W) (h : TB W U) {s : Nat} {ks : List Tr} (hm : mkbr s ks ∈ W) (hk : ∀ k ∈ ks, k ∈ U) : TB W (brT U s ks) := by
 unfold mkbr at hm
 unfold brT
 split
 ·exact h
 ·rename_i hs
  rw [if_neg hs] at hm
  exact h.ins hW hm hk
theorem lv_mono {lo hi lo' hi' : Int} (h1 : lo' ≤ lo) (h2 : hi ≤ hi') : ∀ {t : Tr}, lv lo hi t → lv lo' hi' t := by
 intro t
 induction t using Tr.ind with
 | hl v => intro h; rw [lv] at h ⊢; omega
 | hb s ks ih => intro h; rw [lv] at h ⊢; exact lvs_iff.2 fun k hk => ih k hk (lvs_iff.1 h k hk)
theorem J_lv {f : Int → Int → Int} {lo hi lo' hi' : Int} (hf : ∀ x y, lo ≤ x → x ≤ hi → lo ≤ y → y ≤ hi → lo' ≤ f x y ∧ f x y ≤ hi') {a b : Tr} (ha : Ok wid a) (hb : Ok wid b) (hla : lv lo hi a) (hlb : lv lo hi b) : lv lo' hi' (J f a b) :=
 jn_all (p := lv lo' hi') (R := fun a b => lv lo hi a ∧ lv lo hi b) (fun x y h => by have h1 := h.1; have h2 := h.2; rw [lv] at h1 h2 ⊢; exact hf x y h1.1 h1.2 h2.1 h2.2)
  (fun a b ks _ _ _ _ hkl hp => mkbr_lv hp (wid_ne hkl)) (fun a b k ha hb h hneg hk => ⟨kd_lv ha hk h.1, kd_lv hb hk h.2⟩) _ a b (Nat.le_refl _) ha hb ⟨hla, hlb⟩
theorem insL_filter {f : Tr → Bool} : ∀ {ss l : List Tr}, ((insL l ss).filter f).length ≤ (l.filter f).length + (ss.filter f).length
 | [], l => Nat.le_refl _
 | a :: ss, l => by
  have h := insL_filter (f := f) (ss := ss) (l := insT l a)
  have h2 : ((insT l a).filter f).length ≤ (l.filter f).length + ([a].filter f).length := by
   unfold insT
   split
   ·exact Nat.le_add_right _ _
   ·rw [List.filter_append, List.length_append]; exact Nat.le_refl _
  have h3 : ((a :: ss).filter f).length = ([a].filter f).length + (ss.filter f).length := by
   rw [show a :: ss = [a] ++ ss from rfl, List.filter_append, List.length_append]
  have h4 : insL l (a :: ss) = insL (insT l a) ss := rfl
  rw [h4]
  omega
theorem br_four {t : Tr} (h : Ok wid t) (hs : sd 4 t) : ((enum t []).filter isB).length ≤ 21 := by
 have h1 := enum_nb'.1 t []
 have h2 := nb_bound (f := 0) (k := 4) h hs (by
  cases t with
  | lf v => left; simp [siteOf]
  | br s ks => right; simp only [siteOf]; omega)
 rw [bb_04] at h2
 simp only [List.filter_nil, List.length_nil] at h1
 omega
theorem enum_cw {t : Tr} : Cw (enum t []) := fun x hx => (enum_clo Clo.nil).kids hx
theorem enum_lv {lo hi : Int} {t : Tr} (h : lv lo hi t) : ∀ x ∈ enum t [], lv lo hi x := enum_all (P := lv lo hi) (fun _ h => lv_kid h) h (fun _ h => by cases h)
noncomputable def W3 (a b c : Tr) : List Tr := insL (insL (enum a []) (enum b [])) (enum c [])
theorem W3_sub {a b c x : Tr} (h : x ∈ W3 a b c) : x ∈ enum a [] ∨ x ∈ enum b [] ∨ x ∈ enum c [] := by
 rcases insL_sub h with h | h
 ·rcases insL_sub h with h | h
  ·exact .inl h
  ·exact .inr (.inl h)
 ·exact .inr (.inr h)
theorem W3_a {a b c x : Tr} (h : x ∈ enum a []) : x ∈ W3 a b c := mem_of_pre (insL_pre _ _) (mem_of_pre (insL_pre _ _) h)
theorem W3_b {a b c x : Tr} (h : x ∈ enum b []) : x ∈ W3 a b c := mem_of_pre (insL_pre _ _) (mem_insL h)
theorem W3_c {a b c x : Tr} (h : x ∈ enum c []) : x ∈ W3 a b c := mem_insL h
theorem W3_uni {a b c : Tr} {ds : List (Int × List (List Tm))} (ha : Rin a ds) (hb : Rin b ds) (hc : Rin c ds) (hd : ds.length = 4) {lo : Int} {n : Nat} (hn : n < 36) (hla : lv lo (lo + n) a) (hlb : lv lo (lo + n) b) (hlc : lv lo (lo + n) c) : Uni (W3 a b c) := by
 refine ⟨fun x hx k hk => ?_, fun x hx => ?_, ?_⟩
 ·rcases W3_sub hx with h | h | h
  ·exact W3_a (enum_cw x h k hk)
  ·exact W3_b (enum_cw x h k hk)
  ·exact W3_c (enum_cw x h k hk)
 ·rcases W3_sub hx with h | h | h
  ·exact (ha.all.1 x h).2.2
  ·exact (hb.all.1 x h).2.2
  ·exact (hc.all.1 x h).2.2
 ·have h1 := nodes_le (U := W3 a b c) (lo := lo) (n := n) (insL_nodup (insL_nodup (enum_nodup List.nodup_nil))) fun x hx => by
   rcases W3_sub hx with h | h | h
   ·exact enum_lv hla x h
   ·exact enum_lv hlb x h
   ·exact enum_lv hlc x h
  have ea := br_four ha.ok (by rw [← hd]; exact ha.sb)
  have eb := br_four hb.ok (by rw [← hd]; exact hb.sb)
  have ec := br_four hc.ok (by rw [← hd]; exact hc.sb)
  have f1 := insL_filter (f := isB) (ss := enum c []) (l := insL (enum a []) (enum b []))
  have f2 := insL_filter (f := isB) (ss := enum b []) (l := enum a [])
  unfold W3 at h1 ⊢
  omega
end Go.Proofs.YteipiejlljnclaaGreatDoor
end
