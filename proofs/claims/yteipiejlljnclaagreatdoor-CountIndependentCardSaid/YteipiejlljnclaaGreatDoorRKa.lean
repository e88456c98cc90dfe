/- Masses that flow down a diagram, and expected values (plain laws). Conditions stand in each theorem. -/
import Derived.Test.YteipiejlljnclaaGreatDoorRIa
import Derived.Test.YteipiejlljnclaaGreatDoorRHa
set_option linter.unusedVariables false
set_option linter.unusedSimpArgs false
set_option maxRecDepth 10000
namespace Go.Proofs.YteipiejlljnclaaGreatDoor
open Go Go.AL
theorem Mo.zero_add (a : Mo) : Mo.zero.add a = a := by rw [Mo.add_comm, Mo.add_zero]
mutual
def ev (W : Nat → Nat → List Tm) (h : Int → Rat) : Tr → (Mo → Rat) → Rat
 | .lf v, F => h v * F Mo.zero
 | .br s ks, F => evs W h s 0 ks F
def evs (W : Nat → Nat → List Tm) (h : Int → Rat) : Nat → Nat → List Tr → (Mo → Rat) → Rat
 | _, _, [], _ => 0
 | s, k, t :: ks, F => L (W s k) (fun a => ev W h t fun b => F (a.add b)) + evs W h s (k + 1) ks F
end
theorem evs_snoc (W : Nat → Nat → List Tm) (h : Int → Rat) (s : Nat) (t : Tr) (F : Mo → Rat) : ∀ (ks : List Tr) (k : Nat), evs W h s k (ks ++ [t]) F = evs W h s k ks F + L (W s (k + ks.length)) (fun a => ev W h t fun b => F (a.add b))
 | [], k => by simp only [List.nil_append, evs, List.length_nil, Nat.add_zero]; rw [Rat.zero_add, Rat.add_zero]
 | x :: ks, k => by
  simp only [List.cons_append, evs]
  rw [evs_snoc W h s t F ks (k + 1), Rat.add_assoc, List.length_cons, show k + 1 + ks.length = k + (ks.length + 1) by omega]
def tot (f : Nat → Rat) : Nat → Rat
 | 0 => 0
 | n + 1 => tot f n + f n
theorem tot_congr {f g : Nat → Rat} : ∀ {n : Nat}, (∀ j, j < n → f j = g j) → tot f n = tot g n
 | 0, _ => rfl
 | n + 1, h => by rw [tot, tot, tot_congr fun j hj => h j (by omega), h n (by omega)]
theorem tot_upd {f g : Nat → Rat} {c : Nat} : ∀ {n : Nat}, c < n → (∀ j, j < n → j ≠ c → f j = g j) → tot f n = tot g n + (f c - g c)
 | 0, hc, _ => absurd hc (Nat.not_lt_zero _)
 | n + 1, hc, h => by
  rw [tot, tot]
  by_cases e : c = n
  ·subst e
   rw [tot_congr fun j hj => h j (by omega) (by omega)]
   grind
  ·rw [tot_upd (n := n) (c := c) (by omega) fun j hj hne => h j (by omega) hne, h n (by omega) (by omega)]
   grind
theorem tot_zero : ∀ n, tot (fun _ => 0) n = 0
 | 0 => rfl
 | n + 1 => by rw [tot, tot_zero n, Rat.add_zero]
def gl (m : List (List Tm)) (i : Nat) : List Tm := m.getD i []
theorem gl_set (m : List (List Tm)) (c : Nat) (v : List Tm) (i : Nat) (hc : c < m.length) : gl (m.set c v) i = if i = c then v else gl m i := by
 unfold gl
 rw [List.getD_eq_getElem?_getD, List.getD_eq_getElem?_getD, List.getElem?_set]
 by_cases e : c = i
 ·subst e; simp [hc]
 ·have e' : ¬ i = c := fun h => e h.symm
  simp [e, e']
def gt (l : List Tr) (i : Nat) : Tr := l.getD i (.lf 0)
theorem gt_eq {l : List Tr} {i : Nat} (h : i < l.length) : gt l i = l[i] := by simp [gt, List.getD, h]
noncomputable def kst (W : Nat → Nat → List Tm) (l : List Tr) (i : Nat) (t : Tr) (m : List (List Tm)) (k : Nat) : List (List Tm) :=
 m.set (ix l (gt (kidsOf t) k)) (padd (gl m (ix l (gt (kidsOf t) k))) (pmul (gl m i) (W (siteOf t).toNat k)))
noncomputable def kms (W : Nat → Nat → List Tm) (l : List Tr) (i : Nat) (t : Tr) (m : List (List Tm)) : Nat → List (List Tm)
 | 0 => m
 | k + 1 => kst W l i t (kms W l i t m k) k
noncomputable def mss (W : Nat → Nat → List Tm) (l : List Tr) : Nat → List (List Tm)
 | 0 => (List.replicate l.length []).set (l.length - 1) pone
 | j + 1 => kms W l (l.length - 1 - j) (gt l (l.length - 1 - j)) (mss W l j) (kidsOf (gt l (l.length - 1 - j))).length
theorem kms_len (W : Nat → Nat → List Tm) (l : List Tr) (i : Nat) (t : Tr) (m : List (List Tm)) : ∀ k, (kms W l i t m k).length = m.length
 | 0 => rfl
 | k + 1 => by rw [kms, kst, List.length_set, kms_len W l i t m k]
theorem mss_len (W : Nat → Nat → List Tm) (l : List Tr) : ∀ j, (mss W l j).length = l.length
 | 0 => by rw [mss, List.length_set, List.length_replicate]
 | j + 1 => by rw [mss, kms_len, mss_len W l j]
theorem kid_lt {l : List Tr} (hc : Clo l) {i : Nat} (hi : i < l.length) {k : Tr} (hk : k ∈ kidsOf (gt l i)) : k ∈ l ∧ ix l k < i := by
 rw [gt_eq hi] at hk
 have h := hc.at hi k hk
 have h2 := ix_lt h
 rw [← ix_pre (List.take_prefix i l) h, List.length_take] at h2
 exact ⟨List.mem_of_mem_take h, by omega⟩
theorem gt_mem {l : List Tr} {k : Nat} (h : k < l.length) : gt l k ∈ l := by rw [gt_eq h]; exact List.getElem_mem h
def cb (W : Nat → Nat → List Tm) (h : Int → Rat) (l : List Tr) (F : Mo → Rat) (m : List (List Tm)) (j : Nat) : Rat := L (gl m j) fun a => ev W h (gt l j) fun b => F (a.add b)
def fl (W : Nat → Nat → List Tm) (h : Int → Rat) (l : List Tr) (F : Mo → Rat) (m : List (List Tm)) (i j : Nat) : Rat := if j < i ∨ siteOf (gt l j) < 0 then cb W h l F m j else 0
theorem gl_kms {W : Nat → Nat → List Tm} {l : List Tr} {m : List (List Tm)} {i : Nat} (hc : Clo l) (hi : i < l.length) (hm : m.length = l.length) : ∀ {k : Nat}, k ≤ (kidsOf (gt l i)).length → gl (kms W l i (gt l i) m k) i = gl m i
 | 0, _ => rfl
 | k + 1, h => by
  have hk := kid_lt hc hi (gt_mem (l := kidsOf (gt l i)) (k := k) (by omega))
  rw [kms, kst, gl_set _ _ _ _ (by rw [kms_len, hm]; exact ix_lt hk.1), if_neg (by omega), gl_kms hc hi hm (by omega)]
theorem gt_ix {l : List Tr} {k : Tr} (h : k ∈ l) : gt l (ix l k) = k := by rw [gt_eq (ix_lt h), get_ix h]
theorem take_gt {l : List Tr} {k : Nat} (h : k < l.length) : l.take (k + 1) = l.take k ++ [gt l k] := by
 rw [List.take_succ_eq_append_getElem h, gt_eq h]
theorem kms_flow {W : Nat → Nat → List Tm} {h : Int → Rat} {l : List Tr} {F : Mo → Rat} {m : List (List Tm)} {i : Nat} (hc : Clo l) (hi : i < l.length) (hm : m.length = l.length) : ∀ {k : Nat}, k ≤ (kidsOf (gt l i)).length →
  tot (fl W h l F (kms W l i (gt l i) m k) i) l.length = tot (fl W h l F m i) l.length + L (gl m i) fun a => evs W h (siteOf (gt l i)).toNat 0 ((kidsOf (gt l i)).take k) fun b => F (a.add b)
 | 0, _ => by
  have e : ∀ a, evs W h (siteOf (gt l i)).toNat 0 ((kidsOf (gt l i)).take 0) (fun b => F (Mo.add a b)) = 0 := fun a => by rw [List.take_zero, evs]
  simp only [e, kms]
  have : L (gl m i) (fun _ => (0 : Rat)) = 0 := by
   have := L_mulc 0 (gl m i) (fun _ => (0 : Rat))
   simp only [Rat.zero_mul] at this
   exact this
  rw [this, Rat.add_zero]
 | k + 1, hk => by
  have ih := kms_flow (W := W) (h := h) (F := F) (k := k) hc hi hm (by omega)
  obtain ⟨h1, h2⟩ := kid_lt hc hi (gt_mem (l := kidsOf (gt l i)) (k := k) (by omega))
  have hgi := gl_kms (W := W) hc hi hm (k := k) (by omega)
  have hml := kms_len W l i (gt l i) m k
  have hcl := ix_lt h1
  have hgx := gt_ix h1
  rw [kms, kst, take_gt (by omega)]
  generalize kms W l i (gt l i) m k = M at *
  have hks : ((kidsOf (gt l i)).take k).length = k := by rw [List.length_take]; omega
  generalize gt (kidsOf (gt l i)) k = kid at *
  generalize ix l kid = c at *
  rw [tot_upd (c := c) (g := fl W h l F M i) hcl, ih]
  ·simp only [evs_snoc, L_add, Nat.zero_add, hks]
   rw [Rat.add_assoc]
   congr 2
   unfold fl cb
   rw [if_pos (.inl h2), if_pos (.inl h2), gl_set _ _ _ _ (by omega), if_pos rfl, padd_L, pmul_L, hgi, hgx]
   simp only [Mo.add_assoc]
   grind
  ·intro j hj hne
   unfold fl cb
   rw [gl_set _ _ _ _ (by omega), if_neg hne]
theorem mss_flow {W : Nat → Nat → List Tm} {h : Int → Rat} {l : List Tr} {F : Mo → Rat} (hc : Clo l) (h0 : 0 < l.length) : ∀ {j : Nat}, j ≤ l.length → tot (fl W h l F (mss W l j) (l.length - j)) l.length = ev W h (gt l (l.length - 1)) F
 | 0, _ => by
  rw [tot_upd (c := l.length - 1) (g := fun _ => 0) (by omega), tot_zero]
  ·unfold fl cb
   rw [if_pos (.inl (by omega)), mss, gl_set _ _ _ _ (by rw [List.length_replicate]; omega), if_pos rfl]
   show 0 + (1 * (ev W h _ fun b => F (Mo.zero.add b)) + 0 - 0) = _
   simp only [Mo.zero_add]
   grind
  ·intro j hj hne
   unfold fl cb
   rw [mss, gl_set _ _ _ _ (by rw [List.length_replicate]; omega), if_neg hne]
   have : gl (List.replicate l.length []) j = [] := by unfold gl; simp [List.getD, hj]
   rw [this, L_nil]
   split <;> rfl
 | j + 1, hj => by
  have ih := mss_flow (W := W) (h := h) (F := F) hc h0 (j := j) (by omega)
  have hml := mss_len W l j
  rw [mss]
  generalize mss W l j = m at *
  have e : l.length - 1 - j = l.length - (j + 1) := by omega
  rw [e]
  obtain ⟨i, hi⟩ : ∃ i, i = l.length - (j + 1) := ⟨_, rfl⟩
  have hi1 : l.length - j = i + 1 := by omega
  have hil : i < l.length := by omega
  rw [hi1] at ih
  rw [← hi, kms_flow hc hil hml (Nat.le_refl _), List.take_length, ← ih]
  by_cases hs : siteOf (gt l i) < 0
  ·have hk : kidsOf (gt l i) = [] := by
    cases hg : gt l i with
    | lf v => rfl
    | br s ks => rw [hg] at hs; simp only [siteOf] at hs; omega
   simp only [hk, evs]
   have hz : L (gl m i) (fun _ => (0 : Rat)) = 0 := by
    have := L_mulc 0 (gl m i) (fun _ => (0 : Rat))
    simp only [Rat.zero_mul] at this
    exact this
   rw [hz, Rat.add_zero]
   refine tot_congr fun x hx => ?_
   unfold fl
   by_cases hx2 : x = i
   ·subst hx2; rw [if_pos (.inr hs), if_pos (.inr hs)]
   ·by_cases hx3 : x < i ∨ siteOf (gt l x) < 0
    ·rw [if_pos hx3, if_pos (hx3.elim (fun h => .inl (by omega)) .inr)]
    ·rw [if_neg hx3, if_neg fun h => hx3 (h.elim (fun h => .inl (by omega)) .inr)]
  ·rw [tot_upd (f := fl W h l F m (i + 1)) (g := fl W h l F m i) (c := i) hil]
   ·congr 1
    have e1 : fl W h l F m i i = 0 := by
     unfold fl; rw [if_neg fun h => h.elim (fun h => absurd h (Nat.lt_irrefl _)) hs]
    have e2 : fl W h l F m (i + 1) i = cb W h l F m i := by
     unfold fl; rw [if_pos (.inl (Nat.lt_succ_self _))]
    rw [e1, e2]
    unfold cb
    cases hg : gt l i with
    | lf v => rw [hg] at hs; simp [siteOf] at hs
    | br s ks =>
     simp only [ev, siteOf, kidsOf, Int.toNat_natCast]
     grind
   ·intro x hx hx2
    unfold fl
    by_cases hx3 : x < i ∨ siteOf (gt l x) < 0
    ·rw [if_pos hx3, if_pos (hx3.elim (fun h => .inl (by omega)) .inr)]
    ·rw [if_neg hx3, if_neg fun h => hx3 (h.elim (fun h => .inl (by omega)) .inr)]
noncomputable def msA (W : Nat → Nat → List Tm) (l : List Tr) : List (List Tm) := mss W l l.length
theorem msA_len (W : Nat → Nat → List Tm) (l : List Tr) : (msA W l).length = l.length := mss_len _ _ _
theorem msA_flow {W : Nat → Nat → List Tm} {h : Int → Rat} {l : List Tr} (hc : Clo l) (h0 : 0 < l.length) (F : Mo → Rat) :
  tot (fun j => if siteOf (gt l j) < 0 then h (valOf (gt l j)) * L (gl (msA W l) j) F else 0) l.length = ev W h (gt l (l.length - 1)) F := by
 rw [← mss_flow (W := W) (h := h) (F := F) hc h0 (Nat.le_refl _), Nat.sub_self]
 refine tot_congr fun j hj => ?_
 unfold fl cb msA
 by_cases hs : siteOf (gt l j) < 0
 ·rw [if_pos hs, if_pos (.inr hs)]
  cases hg : gt l j with
  | lf v => simp only [ev, valOf, Mo.add_zero]; rw [L_mulc]
  | br s ks => rw [hg] at hs; simp only [siteOf] at hs; omega
 ·rw [if_neg hs, if_neg fun h => h.elim (fun h => absurd h (Nat.not_lt_zero _)) hs]
theorem kms_PQ {W : Nat → Nat → List Tm} {l : List Tr} {i : Nat} {t : Tr} {m : List (List Tm)} {U : Nat} (hW : ∀ k, PW 360 (W (siteOf t).toNat k)) (hk : ∀ k ∈ kidsOf t, k ∈ l) (hm : m.length = l.length) (h : ∀ x, PQ U (gl m x)) : ∀ {k : Nat}, k ≤ (kidsOf t).length → ∀ x, PQ (U + k) (gl (kms W l i t m k) x)
 | 0, _, x => h x
 | k + 1, hkl, x => by
  have ih := kms_PQ (i := i) hW hk hm h (k := k) (by omega)
  rw [kms, kst, gl_set _ _ _ _ (by rw [kms_len, hm]; exact ix_lt (hk _ (gt_mem (by omega))))]
  split
  ·exact (ih _).step (Nat.le_refl _) (ih _) (hW _)
  ·exact (ih x).mono (by omega)
theorem mss_PQ {W : Nat → Nat → List Tm} {l : List Tr} (hc : Clo l) (hW : ∀ t ∈ l, ∀ k, PW 360 (W (siteOf t).toNat k)) (h3 : ∀ t ∈ l, (kidsOf t).length ≤ 3) : ∀ {j : Nat}, j ≤ l.length → ∀ x, PQ (3 * j) (gl (mss W l j) x)
 | 0, _, x => by
  by_cases h0 : 0 < l.length
  ·rw [mss, gl_set _ _ _ _ (by rw [List.length_replicate]; omega)]
   split
   ·exact PQ.one
   ·have : gl (List.replicate l.length []) x = [] := by
     unfold gl
     by_cases hx : x < l.length <;> simp [List.getD, hx]
    rw [this]; exact PQ.nil _
  ·have : l = [] := List.eq_nil_of_length_eq_zero (by omega)
   subst this
   exact PQ.nil _
 | j + 1, hj, x => by
  have hi : l.length - 1 - j < l.length := by omega
  have hm := gt_mem hi
  rw [mss]
  exact (kms_PQ (hW _ hm) (fun k hk => (kid_lt hc hi hk).1) (mss_len W l j) (mss_PQ hc hW h3 (by omega)) (Nat.le_refl _) x).mono (by have := h3 _ hm; omega)
def wt (ws : List (List (List Tm))) (s k : Nat) : List Tm := (ws.getD s []).getD k []
theorem pone_L (F : Mo → Rat) : L pone F = F Mo.zero := by
 show 1 * F Mo.zero + 0 = _
 rw [Rat.one_mul, Rat.add_zero]
mutual
def sd (n : Nat) : Tr → Prop
 | .lf v => -17 < v ∧ v < 17
 | .br s ks => s < n ∧ sds n ks
def sds (n : Nat) : List Tr → Prop
 | [] => True
 | t :: ks => sd n t ∧ sds n ks
end
theorem sds_iff {n : Nat} : ∀ {ks : List Tr}, sds n ks ↔ ∀ t ∈ ks, sd n t
 | [] => ⟨fun _ t h => (by cases h), fun _ => trivial⟩
 | t :: ks => by
  rw [sds, sds_iff]
  exact ⟨fun h x hx => (List.mem_cons.1 hx).elim (fun e => e ▸ h.1) (h.2 x), fun h => ⟨h t (.head _), fun x hx => h x (.tail _ hx)⟩⟩
theorem sd_kid {n : Nat} {t : Tr} (h : sd n t) : ∀ k ∈ kidsOf t, sd n k := by
 cases t with
 | lf v => intro k hk; cases hk
 | br s ks => rw [sd] at h; exact sds_iff.1 h.2
theorem sd_mono {n m : Nat} (hnm : n ≤ m) : ∀ t, sd n t → sd m t := by
 intro t
 induction t using Tr.ind with
 | hl v => intro h; rw [sd] at h ⊢; exact h
 | hb s ks ih =>
  intro h
  rw [sd, sds_iff] at h ⊢
  exact ⟨by omega, fun t ht => ih t ht (h.2 t ht)⟩
def bw : Nat → Nat → Nat
 | _, 0 => 1
 | f, k + 1 => 1 + wid f * bw (f + 1) k
theorem bw_pos : ∀ k f, 1 ≤ bw f k
 | 0, _ => Nat.le_refl _
 | k + 1, f => by rw [bw]; omega
theorem bw_le (f k : Nat) : bw (f + 1) k ≤ bw f (k + 1) := by
 have h := (wid_bd f).1
 rw [bw]
 calc bw (f + 1) k ≤ wid f * bw (f + 1) k := Nat.le_mul_of_pos_left _ (by omega)
  _ ≤ _ := Nat.le_add_left _ _
theorem mkbr_sd {n s : Nat} {ks : List Tr} (hs : s < n) (h : ∀ k ∈ ks, sd n k) (h0 : ks ≠ []) : sd n (mkbr s ks) := by
 unfold mkbr
 split
 ·cases ks with
  | nil => exact absurd rfl h0
  | cons k ks => exact h k (.head _)
 ·rw [sd, sds_iff]; exact ⟨hs, h⟩
theorem dia_sd (l : List Int) : ∀ (k f a : Nat), f + k ≤ 64 → a ≤ l.length → sd (f + k) (dia l k f a).1 ∧ (dia l k f a).1.sz ≤ bw f k := by
 intro k
 have hlf : ∀ n a, sd n (leafR l a).1 := fun n a => by
  have := rdN_lt l a (n := 6) (by decide)
  rw [leafR, sd]
  omega
 induction k with
 | zero => intro f a h ha; exact ⟨hlf _ a, by simp [dia, leafR, Tr.sz, bw]⟩
 | succ k ih =>
  intro f a h ha
  have h1 := rdN_le l a 5 ha
  have h2 := rdN_le l (rdN l a 5).2 4 h1
  have hb := bw_le f k
  have hp := bw_pos k (f + 1)
  rw [dia]
  split
  ·exact ⟨hlf _ _, by simp only [leafR, Tr.sz]; omega⟩
  ·split
   ·have := ih (f + 1) _ (by omega) h2
    exact ⟨by rw [show f + (k + 1) = f + 1 + k by omega]; exact this.1, Nat.le_trans this.2 hb⟩
   ·generalize (rdN l (rdN l a 5).2 4).2 = b at *
    have hg : ∀ a, a ≤ l.length → (dia l k (f + 1) a).2 ≤ l.length := fun a ha => (dia_ok l k (f + 1) a (by omega) ha).2.2.1
    have ho := drs_all hg (p := fun t => sd (f + (k + 1)) t) (fun a ha => by rw [show f + (k + 1) = f + 1 + k by omega]; exact (ih (f + 1) a (by omega) ha).1) (wid f) b h2
    have hs := drs_szs hg (fun a ha => (ih (f + 1) a (by omega) ha).2) (wid f) b h2
    have hl := drs_len (dia l k (f + 1)) (wid f) b
    have hw := wid_bd f
    generalize drs (dia l k (f + 1)) (wid f) b = R at *
    have hne : R.1 ≠ [] := fun e => by rw [e] at hl; simp at hl; omega
    refine ⟨mkbr_sd (by omega) ho hne, ?_⟩
    have := mkbr_sz f R.1 hne
    show (mkbr f R.1).sz ≤ _
    rw [bw]; omega
theorem bw_04 : bw 0 4 = 57 := by decide
end Go.Proofs.YteipiejlljnclaaGreatDoor
