/- Expected values of diagrams that are restricted (plain laws). Conditions stand in each theorem. -/
import Derived.Test.YteipiejlljnclaaGreatDoorQKa
set_option linter.unusedVariables false
set_option linter.unusedSimpArgs false
set_option maxRecDepth 10000
namespace Go.Proofs.YteipiejlljnclaaGreatDoor
open Go Go.AL
theorem wt_at {ws : List (List (List Tm))} {s k : Nat} (h : k < (ws.getD s []).length) : wt ws s k = (ws.getD s [])[k] := by
 unfold wt
 rw [List.getD_eq_getElem?_getD (l := ws.getD s []), List.getElem?_eq_getElem h]; rfl
theorem evs_all {ws : List (List (List Tm))} {h : Int → Rat} {F : Mo → Rat} {s : Nat} {E : (Mo → Rat) → Rat} {ks : List Tr} : ∀ {k : Nat}, (ws.getD s []).length = k + ks.length → (∀ t ∈ ks, ∀ G, ev (wt ws) h t G = E G) → evs (wt ws) h s k ks F = Ls (fun a => E fun b => F (a.add b)) ((ws.getD s []).drop k) := by
 induction ks with
 | nil =>
  intro k hl _
  rw [List.drop_of_length_le (by rw [hl]; simp), evs, Ls]
 | cons t ks ih =>
  intro k hl ht
  rw [List.length_cons] at hl
  rw [evs, ih (k := k + 1) (by omega) fun t h => ht t (.tail _ h), List.drop_eq_getElem_cons (i := k) (l := ws.getD s []) (by omega), Ls, wt_at (by omega)]
  simp only [ht t (.head _)]
theorem ev_mkbr {ws : List (List (List Tm))} (hw : WOK ws) {h : Int → Rat} {s : Nat} {ks : List Tr} (hs : s < ws.length) (hk : ks.length = wid s) (F : Mo → Rat) : ev (wt ws) h (mkbr s ks) F = evs (wt ws) h s 0 ks F := by
 unfold mkbr
 split
 ·rename_i hsame
  have h2 := (wid_bd s).1
  cases ks with
  | nil => simp at hk; omega
  | cons k ks =>
   have hall : ∀ t ∈ k :: ks, ∀ G, ev (wt ws) h t G = ev (wt ws) h k G := by
    intro t ht G
    rcases List.mem_cons.1 ht with rfl | ht
    ·rfl
    ·rw [hsame t ht]
   rw [evs_all (E := ev (wt ws) h k) (by rw [hw.len s hs, hk]; omega) hall, List.drop_zero, hw.one s hs, pone_L]
   simp only [Mo.zero_add, List.headD_cons]
 ·rw [ev]
theorem evs_tot (W : Nat → Nat → List Tm) (h : Int → Rat) (s : Nat) (F : Mo → Rat) (ks : List Tr) : evs W h s 0 ks F = tot (fun o => L (W s o) fun a => ev W h (gt ks o) fun b => F (a.add b)) ks.length := by
 have key : ∀ n, n ≤ ks.length → evs W h s 0 (ks.take n) F = tot (fun o => L (W s o) fun a => ev W h (gt ks o) fun b => F (a.add b)) n := by
  intro n
  induction n with
  | zero => intro _; rw [List.take_zero, evs, tot]
  | succ n ih =>
   intro hn
   have hl : (ks.take n).length = n := by rw [List.length_take]; omega
   rw [take_gt (by omega), evs_snoc, ih (by omega), tot, hl, Nat.zero_add]
 have := key ks.length (Nat.le_refl _)
 rwa [List.take_length] at this
theorem tot_Ls {ws : List (List (List Tm))} {s n : Nat} (G : Mo → Rat) (h : (ws.getD s []).length = n) : tot (fun o => L (wt ws s o) G) n = Ls G (ws.getD s []) := by
 have key : ∀ n, n ≤ (ws.getD s []).length → tot (fun o => L (wt ws s o) G) n = Ls G ((ws.getD s []).take n) := by
  intro n
  induction n with
  | zero => intro _; rw [List.take_zero, Ls, tot]
  | succ n ih =>
   intro hn
   rw [tot, ih (by omega), List.take_succ_eq_append_getElem (by omega), Ls_append, Ls, Ls, Rat.add_zero, wt_at (by omega)]
 have := key n (by omega)
 rwa [List.take_of_length_le (by omega)] at this
theorem tot_mul (c : Rat) (f : Nat → Rat) : ∀ n, tot (fun j => c * f j) n = c * tot f n
 | 0 => by rw [tot, tot, Rat.mul_zero]
 | n + 1 => by rw [tot, tot, tot_mul c f n, Rat.mul_add]
theorem tot_add (f g : Nat → Rat) : ∀ n, tot (fun j => f j + g j) n = tot f n + tot g n
 | 0 => by rw [tot, tot, tot, Rat.add_zero]
 | n + 1 => by rw [tot, tot, tot, tot_add f g n]; grind
theorem tot_swap (f : Nat → Nat → Rat) (m : Nat) : ∀ n, tot (fun j => tot (f j) m) n = tot (fun k => tot (fun j => f j k) n) m
 | 0 => by
  rw [tot]
  have : tot (fun k => tot (fun j => f j k) 0) m = tot (fun _ => 0) m := rfl
  rw [this, tot_zero]
 | n + 1 => by rw [tot, tot_swap f m n, ← tot_add]; rfl
theorem L_zeroF (p : List Tm) : L p (fun _ => (0 : Rat)) = 0 := by
 have := L_mulc 0 p (fun _ => (0 : Rat))
 simp only [Rat.zero_mul] at this
 exact this
theorem L_tot (p : List Tm) (f : Mo → Nat → Rat) : ∀ n, (L p fun a => tot (f a) n) = tot (fun k => L p fun a => f a k) n
 | 0 => by simp only [tot]; exact L_zeroF p
 | n + 1 => by simp only [tot]; rw [L_add, L_tot p f n]
mutual
noncomputable def rs (site o : Nat) : Tr → Tr
 | .lf v => .lf v
 | .br s ks => if s = site then gt (rss site o ks) o else mkbr s (rss site o ks)
noncomputable def rss (site o : Nat) : List Tr → List Tr
 | [] => []
 | k :: ks => rs site o k :: rss site o ks
end
theorem rss_map (site o : Nat) : ∀ ks, rss site o ks = ks.map (rs site o)
 | [] => rfl
 | k :: ks => by rw [rss, rss_map site o ks, List.map_cons]
theorem rs_lf (site o : Nat) (v : Int) : rs site o (.lf v) = .lf v := by rw [rs]
theorem rs_br (site o s : Nat) (ks : List Tr) : rs site o (.br s ks) = if s = site then gt (ks.map (rs site o)) o else mkbr s (ks.map (rs site o)) := by rw [rs, rss_map]
theorem gt_map {f : Tr → Tr} {l : List Tr} {i : Nat} (h : i < l.length) : gt (l.map f) i = f (gt l i) := by
 rw [gt_eq (by rw [List.length_map]; exact h), gt_eq h, List.getElem_map]
theorem mkbr_br {s : Nat} {ks : List Tr} (h : ¬ same ks) : mkbr s ks = .br s ks := by unfold mkbr; rw [if_neg h]
theorem rs_id {w : Nat → Nat} {site o : Nat} : ∀ {t : Tr}, Ok w t → (siteOf t < 0 ∨ (site : Int) < siteOf t) → rs site o t = t := by
 intro t
 induction t using Tr.ind with
 | hl v => intro _ _; exact rs_lf _ _ _
 | hb s ks ih =>
  intro hok hs
  cases hok with
  | br h1 hw h2 h3 hr hk ho =>
   simp only [siteOf] at hs
   have e : ks.map (rs site o) = ks := by
    have h : ∀ k ∈ ks, rs site o k = id k := fun k hmem => ih k hmem (hk k hmem) (by have := ho k hmem; omega)
    rw [List.map_congr_left h, List.map_id]
   rw [rs_br, if_neg (by omega), e, mkbr_br hr]
theorem rs_site {w : Nat → Nat} {site o : Nat} {m : Int} : ∀ {t : Tr}, Ok w t → o < w site → (siteOf t < 0 ∨ m ≤ siteOf t) → siteOf (rs site o t) < 0 ∨ m ≤ siteOf (rs site o t) := by
 intro t
 induction t using Tr.ind with
 | hl v => intro _ _ h; rw [rs_lf]; exact h
 | hb s ks ih =>
  intro hok hoo hs
  cases hok with
  | br h1 hw h2 h3 hr hk ho =>
   simp only [siteOf] at hs
   have hkk : ∀ k ∈ ks.map (rs site o), siteOf k < 0 ∨ m ≤ siteOf k := by
    intro k hkm
    obtain ⟨x, hx, rfl⟩ := List.mem_map.1 hkm
    exact ih x hx (hk x hx) hoo (by have := ho x hx; omega)
   rw [rs_br]
   split
   ·rename_i e
    exact hkk _ (gt_mem (by rw [List.length_map, hw, e]; exact hoo))
   ·unfold mkbr
    split
    ·cases ks with
     | nil => simp at hw; omega
     | cons k ks => exact hkk _ (by rw [List.map_cons, List.headD_cons]; exact .head _)
    ·simp only [siteOf]; omega
theorem rs_ok {site o : Nat} : ∀ {t : Tr}, Ok wid t → o < wid site → Ok wid (rs site o t) := by
 intro t
 induction t using Tr.ind with
 | hl v => intro h _; rw [rs_lf]; exact h
 | hb s ks ih =>
  intro hok hoo
  cases hok with
  | br h1 hw h2 h3 hr hk ho =>
   have hkk : ∀ k ∈ ks.map (rs site o), Ok wid k := by
    intro k hkm
    obtain ⟨x, hx, rfl⟩ := List.mem_map.1 hkm
    exact ih x hx (hk x hx) hoo
   rw [rs_br]
   split
   ·rename_i e
    exact hkk _ (gt_mem (by rw [List.length_map, hw, e]; exact hoo))
   ·refine mkbr_ok h1 (by rw [List.length_map]; exact hw) hkk fun k hkm => ?_
    obtain ⟨x, hx, rfl⟩ := List.mem_map.1 hkm
    have := rs_site (site := site) (o := o) (m := (s : Int) + 1) (hk x hx) hoo (by have := ho x hx; omega)
    omega
theorem szs_map_le {f : Tr → Tr} : ∀ {ks : List Tr}, (∀ k ∈ ks, (f k).sz ≤ k.sz) → szs (ks.map f) ≤ szs ks
 | [], _ => Nat.le_refl _
 | k :: ks, h => by
  have h1 := h k (.head _)
  have h2 := szs_map_le (f := f) (ks := ks) fun x hx => h x (.tail _ hx)
  simp only [List.map_cons, szs]; omega
theorem gt_sz {l : List Tr} (i : Nat) (h : i < l.length) : (gt l i).sz ≤ szs l := sz_le_szs (gt_mem h)
theorem rs_sz {w : Nat → Nat} {site o : Nat} : ∀ {t : Tr}, Ok w t → o < w site → (rs site o t).sz ≤ t.sz := by
 intro t
 induction t using Tr.ind with
 | hl v => intro _ _; rw [rs_lf]; exact Nat.le_refl _
 | hb s ks ih =>
  intro hok hoo
  cases hok with
  | br h1 hw h2 h3 hr hk ho =>
   have hle := szs_map_le (f := rs site o) (ks := ks) fun k hkk => ih k hkk (hk k hkk) hoo
   rw [rs_br, Tr.sz]
   split
   ·rename_i e
    have := gt_sz (l := ks.map (rs site o)) o (by rw [List.length_map, hw, e]; exact hoo)
    omega
   ·have := mkbr_sz s (ks.map (rs site o)) (by
     intro e
     have := congrArg List.length e
     rw [List.length_map, List.length_nil] at this
     omega)
    omega
theorem rs_sd {w : Nat → Nat} {site o n : Nat} : ∀ {t : Tr}, Ok w t → o < w site → sd n t → sd n (rs site o t) := by
 intro t
 induction t using Tr.ind with
 | hl v => intro _ _ h; rw [rs_lf]; exact h
 | hb s ks ih =>
  intro hok hoo hsd
  cases hok with
  | br h1 hw h2 h3 hr hk ho =>
   rw [sd, sds_iff] at hsd
   have hkk : ∀ k ∈ ks.map (rs site o), sd n k := by
    intro k hkm
    obtain ⟨x, hx, rfl⟩ := List.mem_map.1 hkm
    exact ih x hx (hk x hx) hoo (hsd.2 x hx)
   rw [rs_br]
   split
   ·rename_i e
    exact hkk _ (gt_mem (by rw [List.length_map, hw, e]; exact hoo))
   ·exact mkbr_sd hsd.1 hkk (by
     intro e
     have := congrArg List.length e
     rw [List.length_map, List.length_nil] at this
     omega)
theorem ev_cond {ws : List (List (List Tm))} (hw : WOK ws) {h : Int → Rat} {site : Nat} (hsi : site < ws.length) : ∀ {t : Tr}, Ok wid t → sd ws.length t → ∀ F,
  tot (fun o => L (wt ws site o) fun a => ev (wt ws) h (rs site o t) fun b => F (a.add b)) (wid site) = ev (wt ws) h t F := by
 intro t
 induction t using Tr.ind with
 | hl v =>
  intro _ _ F
  simp only [rs_lf, ev, Mo.add_zero, L_mulc]
  rw [tot_mul, tot_Ls F (hw.len site hsi), hw.one site hsi, pone_L]
 | hb s ks ih =>
  intro hok hsd F
  cases hok with
  | br h1 hwk h2 h3 hr hk ho =>
   rw [sd, sds_iff] at hsd
   by_cases e : s = site
   ·subst e
    rw [ev, evs_tot, hwk]
    refine tot_congr fun o hoo => ?_
    have hg : gt ks o ∈ ks := gt_mem (by omega)
    rw [rs_br, if_pos rfl, gt_map (by omega), rs_id (hk _ hg) (ho _ hg)]
   ·have e1 : ∀ o G, ev (wt ws) h (rs site o (.br s ks)) G = tot (fun k => L (wt ws s k) fun b => ev (wt ws) h (rs site o (gt ks k)) fun c => G (b.add c)) (wid s) := by
     intro o G
     rw [rs_br, if_neg e, ev_mkbr hw hsd.1 (by rw [List.length_map]; exact hwk), evs_tot, List.length_map, hwk]
     refine tot_congr fun k hkk => ?_
     rw [gt_map (by omega)]
    simp only [e1, L_tot]
    rw [tot_swap, ev, evs_tot, hwk]
    refine tot_congr fun k hkk => ?_
    have hg : gt ks k ∈ ks := gt_mem (by omega)
    have hsw : ∀ o, (L (wt ws site o) fun a => L (wt ws s k) fun b => ev (wt ws) h (rs site o (gt ks k)) fun c => F (a.add (b.add c))) = L (wt ws s k) fun b => L (wt ws site o) fun a => ev (wt ws) h (rs site o (gt ks k)) fun c => F (b.add (a.add c)) := by
     intro o
     rw [L_swap]
     have : ∀ a b c : Mo, a.add (b.add c) = b.add (a.add c) := fun a b c => by rw [← Mo.add_assoc, Mo.add_comm a b, Mo.add_assoc]
     simp only [this]
    simp only [hsw]
    rw [← L_tot]
    have := fun b : Mo => ih (gt ks k) hg (hk _ hg) (hsd.2 _ hg) fun c => F (b.add c)
    simp only [this]
end Go.Proofs.YteipiejlljnclaaGreatDoor
