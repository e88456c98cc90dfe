/- Expected values of sums and products of diagrams (plain laws). Conditions stand in each theorem. -/
import Derived.Test.YteipiejlljnclaaGreatDoorSKb
import Derived.Test.YteipiejlljnclaaGreatDoorRKf
import Derived.Test.YteipiejlljnclaaGreatDoorSHg
set_option linter.unusedVariables false
set_option linter.unusedSimpArgs false
set_option maxRecDepth 10000
section
namespace Go.Proofs.YteipiejlljnclaaGreatDoor
open Go Go.AL
def kd (s k : Nat) (t : Tr) : Tr := if siteOf t = s then gt (kidsOf t) k else t
def sj (a b : Tr) : Int := if siteOf a < 0 ∨ (0 ≤ siteOf b ∧ siteOf b < siteOf a) then siteOf b else siteOf a
noncomputable def jn (f : Int → Int → Int) : Nat → Tr → Tr → Tr
 | 0, _, _ => .lf 0
 | n + 1, a, b => if sj a b < 0 then .lf (f (valOf a) (valOf b)) else
   mkbr (sj a b).toNat ((List.range (wid (sj a b).toNat)).map fun k => jn f n (kd (sj a b).toNat k a) (kd (sj a b).toNat k b))
theorem lf_site {t : Tr} (h : siteOf t < 0) : ∃ v, t = .lf v := by
 cases t with
 | lf v => exact ⟨v, rfl⟩
 | br s ks =>
  have e2 : (s : Int) < 0 := h
  omega
end Go.Proofs.YteipiejlljnclaaGreatDoor
end
section
namespace Go.Proofs.YteipiejlljnclaaGreatDoor
open Go Go.AL
mutual
def lv (lo hi : Int) : Tr → Prop
 | .lf v => lo ≤ v ∧ v ≤ hi
 | .br _ ks => lvs lo hi ks
def lvs (lo hi : Int) : List Tr → Prop
 | [] => True
 | t :: ks => lv lo hi t ∧ lvs lo hi ks
end
theorem lvs_iff {lo hi : Int} : ∀ {ks : List Tr}, lvs lo hi ks ↔ ∀ t ∈ ks, lv lo hi t
 | [] => ⟨fun _ t h => (by cases h), fun _ => trivial⟩
 | t :: ks => by
  rw [lvs, lvs_iff]
  exact ⟨fun h x hx => (List.mem_cons.1 hx).elim (fun e => e ▸ h.1) (h.2 x), fun h => ⟨h t (.head _), fun x hx => h x (.tail _ hx)⟩⟩
theorem mkbr_lv {lo hi : Int} {s : Nat} {ks : List Tr} (h : ∀ k ∈ ks, lv lo hi k) (h0 : ks ≠ []) : lv lo hi (mkbr s ks) := by
 unfold mkbr
 split
 ·cases ks with
  | nil => exact absurd rfl h0
  | cons k ks => exact h k (.head _)
 ·rw [lv, lvs_iff]; exact h
theorem lv_kid {lo hi : Int} {t : Tr} (h : lv lo hi t) : ∀ k ∈ kidsOf t, lv lo hi k := by
 cases t with
 | lf v => intro k hk; cases hk
 | br s ks => rw [lv] at h; exact lvs_iff.1 h
theorem dia_lv (l : List Int) : ∀ (k f a : Nat), f + k ≤ 64 → a ≤ l.length → lv (-2) 3 (dia l k f a).1 := by
 intro k
 have hlf : ∀ a, lv (-2) 3 (leafR l a).1 := fun a => by
  have := rdN_lt l a (n := 6) (by decide)
  rw [leafR, lv]
  omega
 induction k with
 | zero => intro f a h ha; exact hlf a
 | succ k ih =>
  intro f a h ha
  have h1 := rdN_le l a 5 ha
  have h2 := rdN_le l (rdN l a 5).2 4 h1
  rw [dia]
  split
  ·exact hlf _
  ·split
   ·exact ih (f + 1) _ (by omega) h2
   ·generalize (rdN l (rdN l a 5).2 4).2 = b at *
    have hg : ∀ a, a ≤ l.length → (dia l k (f + 1) a).2 ≤ l.length := fun a ha => (dia_ok l k (f + 1) a (by omega) ha).2.2.1
    have ho := drs_all hg (p := fun t => lv (-2) 3 t) (fun a ha => ih (f + 1) a (by omega) ha) (wid f) b h2
    have hl := drs_len (dia l k (f + 1)) (wid f) b
    have hw := wid_bd f
    exact mkbr_lv ho fun e => by rw [e] at hl; simp at hl; omega
theorem wid_ne {s : Nat} {ks : List Tr} (h : ks.length = wid s) : ks ≠ [] := fun e => by
 have := wid_bd s
 rw [e] at h; simp at h; omega
end Go.Proofs.YteipiejlljnclaaGreatDoor
end
section
namespace Go.Proofs.YteipiejlljnclaaGreatDoor
open Go Go.AL
mutual
def nb : Tr → Nat
 | .lf _ => 0
 | .br _ ks => 1 + nbs ks
def nbs : List Tr → Nat
 | [] => 0
 | k :: ks => nb k + nbs ks
end
def bb : Nat → Nat → Nat
 | _, 0 => 0
 | f, k + 1 => 1 + wid f * bb (f + 1) k
theorem bb_le (f k : Nat) : bb (f + 1) k ≤ bb f (k + 1) := by
 have h := (wid_bd f).1
 rw [bb]
 calc bb (f + 1) k ≤ wid f * bb (f + 1) k := Nat.le_mul_of_pos_left _ (by omega)
  _ ≤ _ := Nat.le_add_left _ _
theorem bb_mono (f : Nat) : ∀ d k, bb (f + d) k ≤ bb f (k + d)
 | 0, k => Nat.le_refl _
 | d + 1, k => by
  have h1 := bb_mono (f + 1) d k
  have h2 := bb_le f (k + d)
  rw [show f + (d + 1) = f + 1 + d by omega]
  exact Nat.le_trans h1 h2
theorem nbs_bound {S : Nat} : ∀ {ks : List Tr}, (∀ k ∈ ks, nb k ≤ S) → nbs ks ≤ ks.length * S
 | [], _ => by simp [nbs]
 | k :: ks, h => by
  have h1 := h k (.head _)
  have h2 := nbs_bound (ks := ks) fun x hx => h x (.tail _ hx)
  rw [nbs, List.length_cons, Nat.add_mul, Nat.one_mul]
  omega
theorem nb_bound : ∀ {t : Tr} {f k : Nat}, Ok wid t → sd (f + k) t → (siteOf t < 0 ∨ (f : Int) ≤ siteOf t) → nb t ≤ bb f k := by
 intro t
 induction t using Tr.ind with
 | hl v => intro f k _ _ _; rw [nb]; exact Nat.zero_le _
 | hb s ks ih =>
  intro f k hok hsd hs
  cases hok with
  | br h1 hwk h2 h3 hr hk ho =>
   rw [sd, sds_iff] at hsd
   have hsf : f ≤ s := by simp only [siteOf] at hs; omega
   obtain ⟨d, rfl⟩ := Nat.exists_eq_add_of_le hsf
   obtain ⟨j, rfl⟩ : ∃ j, k = j + 1 + d := ⟨k - 1 - d, by omega⟩
   have hkk : ∀ x ∈ ks, nb x ≤ bb (f + d + 1) j := fun x hx => ih x hx (hk x hx) (by
    have := hsd.2 x hx
    rwa [show f + (j + 1 + d) = f + d + 1 + j by omega] at this) (by have := ho x hx; omega)
   have h4 := nbs_bound hkk
   have h5 := bb_mono f d (j + 1)
   rw [nb]
   have h6 : bb (f + d) (j + 1) = 1 + wid (f + d) * bb (f + d + 1) j := rfl
   rw [hwk] at h4
   omega
theorem bb_04 : bb 0 4 = 21 := by decide
def isB : Tr → Bool
 | .lf _ => false
 | .br _ _ => true
theorem enum_nb' : (∀ t l, ((enum t l).filter isB).length ≤ (l.filter isB).length + nb t) ∧ (∀ ks l, ((enums ks l).filter isB).length ≤ (l.filter isB).length + nbs ks) := by
 have key : ∀ t, ∀ l : List Tr, ((enum t l).filter isB).length ≤ (l.filter isB).length + nb t := by
  intro t
  induction t using Tr.ind with
  | hl v =>
   intro l
   by_cases hm : Tr.lf v ∈ l
   ·rw [enum_of_mem hm]; omega
   ·rw [enum_of_not hm]; simp [kidsOf, isB]
  | hb s ks ih =>
   intro l
   by_cases hm : Tr.br s ks ∈ l
   ·rw [enum_of_mem hm]; omega
   ·rw [enum_of_not hm]
    have hks : ∀ (ks' : List Tr), (∀ k ∈ ks', k ∈ ks) → ∀ l : List Tr, ((enums ks' l).filter isB).length ≤ (l.filter isB).length + nbs ks' := by
     intro ks'
     induction ks' with
     | nil => intro _ l; simp [nbs]
     | cons k ks' ihk =>
      intro hsub l
      rw [enums_cons]
      have h1 := ihk (fun x hx => hsub x (.tail _ hx)) (enum k l)
      have h2 := ih k (hsub k (.head _)) l
      rw [nbs]; omega
    have := hks ks (fun _ h => h) l
    simp only [kidsOf, List.filter_append, List.length_append]
    rw [nb]
    have : ([Tr.br s ks].filter isB).length = 1 := rfl
    omega
 refine ⟨key, ?_⟩
 intro ks
 induction ks with
 | nil => intro l; simp [nbs]
 | cons k ks ihk =>
  intro l
  rw [enums_cons, nbs]
  have h1 := ihk (enum k l)
  have h2 := key k l
  omega
theorem nodes_le {U : List Tr} {lo : Int} {n : Nat} (hn : U.Nodup) (h : ∀ t ∈ U, lv lo (lo + n) t) : U.length ≤ n + 1 + (U.filter isB).length := by
 have h1 : U.length = (U.filter isB).length + (U.filter fun t => !isB t).length := by
  have key : ∀ U : List Tr, U.length = (U.filter isB).length + (U.filter fun t => !isB t).length := by
   intro U
   induction U with
   | nil => rfl
   | cons t U ih =>
    rw [List.filter_cons, List.filter_cons, List.length_cons, ih]
    cases isB t <;> simp <;> omega
  exact key U
 have h2 : (U.filter fun t => !isB t).length ≤ n + 1 := by
  have hnd : ((U.filter fun t => !isB t).map fun t => (valOf t - lo).toNat).Nodup := by
   refine List.pairwise_map.2 (List.Pairwise.imp_of_mem (fun {a b} ha hb hab he => ?_) (hn.filter _))
   obtain ⟨ha1, ha2⟩ := List.mem_filter.1 ha
   obtain ⟨hb1, hb2⟩ := List.mem_filter.1 hb
   cases a with
   | br s ks => simp [isB] at ha2
   | lf x =>
    cases b with
    | br s ks => simp [isB] at hb2
    | lf y =>
     have g1 := h _ ha1
     have g2 := h _ hb1
     rw [lv] at g1 g2
     simp only [valOf] at he
     have : x = y := by omega
     exact hab (by rw [this])
  have := nodup_bound (n + 1) _ hnd fun x hx => by
   obtain ⟨t, ht, rfl⟩ := List.mem_map.1 hx
   obtain ⟨ht1, ht2⟩ := List.mem_filter.1 ht
   cases t with
   | br s ks => simp [isB] at ht2
   | lf v =>
    have g := h _ ht1
    rw [lv] at g
    show (v - lo).toNat < n + 1
    omega
  rwa [List.length_map] at this
 omega
end Go.Proofs.YteipiejlljnclaaGreatDoor
end
section
namespace Go.Proofs.YteipiejlljnclaaGreatDoor
open Go
noncomputable def J (f : Int → Int → Int) (a b : Tr) : Tr := jn f (a.sz + b.sz) a b
def Cw (W : List Tr) : Prop := ∀ t ∈ W, ∀ k ∈ kidsOf t, k ∈ W
theorem mkbr_kid {W : List Tr} (hc : Cw W) {s : Nat} {ks : List Tr} (h : mkbr s ks ∈ W) : ∀ k ∈ ks, k ∈ W := by
 unfold mkbr at h
 split at h
 ·rename_i hs
  cases ks with
  | nil => intro k hk; cases hk
  | cons a ks =>
   intro k hk
   rcases List.mem_cons.1 hk with rfl | hk
   ·exact h
   ·rw [hs k hk]; exact h
 ·exact hc _ h
structure Uni (W : List Tr) : Prop where
 c : Cw W
 s : ∀ t ∈ W, SmT t
 l : W.length < 100
structure TB (W U : List Tr) : Prop where
 t : Tab U
 s : ∀ x ∈ U, x ∈ W
theorem nodup_len : ∀ {U W : List Tr}, U.Nodup → (∀ t ∈ U, t ∈ W) → U.length ≤ W.length
 | [], W, _, _ => Nat.zero_le _
 | t :: U, W, hn, h => by
  have ht := h t (.head _)
  have hc := List.nodup_cons.1 hn
  have h2 := nodup_len (U := U) (W := W.erase t) hc.2 (fun x hx => (List.mem_erase_of_ne (by rintro rfl; exact hc.1 hx)).2 (h x (.tail _ hx)))
  rw [List.length_erase_of_mem ht] at h2
  have := List.length_pos_of_mem ht
  rw [List.length_cons]
  omega
theorem TB.len {W U : List Tr} (hW : Uni W) (h : TB W U) : U.length < 100 := Nat.lt_of_le_of_lt (nodup_len h.t.nod h.s) hW.l
theorem TB.sm {W U : List Tr} (hW : Uni W) (h : TB W U) : ∀ t ∈ U, SmT t := fun t ht => hW.s t (h.s t ht)
theorem TB.ins {W U : List Tr} (hW : Uni W) (h : TB W U) {t : Tr} (ht : t ∈ W) (hk : ∀ k ∈ kidsOf t, k ∈ U) : TB W (insT U t) := by
 have h1 := TB.len hW h
 have h2 := ins_len U t
 have h3 := (hW.s t ht).k
 refine ⟨ins_tab h.t hk (by omega) (by omega), fun x hx => ?_⟩
 unfold insT at hx
 split at hx
 ·exact h.s x hx
 ·rcases List.mem_append.1 hx with hx | hx
  ·exact h.s x hx
  ·rw [List.mem_singleton.1 hx]; exact ht
theorem TB.br {W U : List Tr} (hW : Uni W) (h : TB W U) {s : Nat} {ks : List Tr} (hm : mkbr s ks ∈ W) (hk : ∀ k ∈ ks, k ∈ U) : TB W (brT U s ks) := by
 unfold mkbr at hm
 unfold brT
 split
 ·exact h
 ·rename_i hs
  rw [if_neg hs] at hm
  exact h.ins hW hm hk
theorem lv_mono {lo hi lo' hi' : Int} (h1 : lo' ≤ lo) (h2 : hi ≤ hi') : ∀ {t : Tr}, lv lo hi t → lv lo' hi' t := by
 intro t
 induction t using Tr.ind with
 | hl v => intro h; rw [lv] at h ⊢; omega
 | hb s ks ih => intro h; rw [lv] at h ⊢; exact lvs_iff.2 fun k hk => ih k hk (lvs_iff.1 h k hk)
theorem insL_filter {f : Tr → Bool} : ∀ {ss l : List Tr}, ((insL l ss).filter f).length ≤ (l.filter f).length + (ss.filter f).length
 | [], l => Nat.le_refl _
 | a :: ss, l => by
  have h := insL_filter (f := f) (ss := ss) (l := insT l a)
  have h2 : ((insT l a).filter f).length ≤ (l.filter f).length + ([a].filter f).length := by
   unfold insT
   split
   ·exact Nat.le_add_right _ _
   ·rw [List.filter_append, List.length_append]; exact Nat.le_refl _
  have h3 : ((a :: ss).filter f).length = ([a].filter f).length + (ss.filter f).length := by
   rw [show a :: ss = [a] ++ ss from rfl, List.filter_append, List.length_append]
  have h4 : insL l (a :: ss) = insL (insT l a) ss := rfl
  rw [h4]
  omega
theorem br_four {t : Tr} (h : Ok wid t) (hs : sd 4 t) : ((enum t []).filter isB).length ≤ 21 := by
 have h1 := enum_nb'.1 t []
 have h2 := nb_bound (f := 0) (k := 4) h hs (by
  cases t with
  | lf v => left; simp [siteOf]
  | br s ks => right; simp only [siteOf]; omega)
 rw [bb_04] at h2
 simp only [List.filter_nil, List.length_nil] at h1
 omega
theorem enum_cw {t : Tr} : Cw (enum t []) := fun x hx => (enum_clo Clo.nil).kids hx
theorem enum_lv {lo hi : Int} {t : Tr} (h : lv lo hi t) : ∀ x ∈ enum t [], lv lo hi x := enum_all (P := lv lo hi) (fun _ h => lv_kid h) h (fun _ h => by cases h)
noncomputable def W3 (a b c : Tr) : List Tr := insL (insL (enum a []) (enum b [])) (enum c [])
theorem W3_sub {a b c x : Tr} (h : x ∈ W3 a b c) : x ∈ enum a [] ∨ x ∈ enum b [] ∨ x ∈ enum c [] := by
 rcases insL_sub h with h | h
 ·rcases insL_sub h with h | h
  ·exact .inl h
  ·exact .inr (.inl h)
 ·exact .inr (.inr h)
theorem W3_a {a b c x : Tr} (h : x ∈ enum a []) : x ∈ W3 a b c := mem_of_pre (insL_pre _ _) (mem_of_pre (insL_pre _ _) h)
theorem W3_b {a b c x : Tr} (h : x ∈ enum b []) : x ∈ W3 a b c := mem_of_pre (insL_pre _ _) (mem_insL h)
theorem W3_c {a b c x : Tr} (h : x ∈ enum c []) : x ∈ W3 a b c := mem_insL h
theorem W3_uni {a b c : Tr} {ds : List (Int × List (List Tm))} (ha : Rin a ds) (hb : Rin b ds) (hc : Rin c ds) (hd : ds.length = 4) {lo : Int} {n : Nat} (hn : n < 36) (hla : lv lo (lo + n) a) (hlb : lv lo (lo + n) b) (hlc : lv lo (lo + n) c) : Uni (W3 a b c) := by
 refine ⟨fun x hx k hk => ?_, fun x hx => ?_, ?_⟩
 ·rcases W3_sub hx with h | h | h
  ·exact W3_a (enum_cw x h k hk)
  ·exact W3_b (enum_cw x h k hk)
  ·exact W3_c (enum_cw x h k hk)
 ·rcases W3_sub hx with h | h | h
  ·exact (ha.all.1 x h).2.2
  ·exact (hb.all.1 x h).2.2
  ·exact (hc.all.1 x h).2.2
 ·have h1 := nodes_le (U := W3 a b c) (lo := lo) (n := n) (insL_nodup (insL_nodup (enum_nodup List.nodup_nil))) fun x hx => by
   rcases W3_sub hx with h | h | h
   ·exact enum_lv hla x h
   ·exact enum_lv hlb x h
   ·exact enum_lv hlc x h
  have ea := br_four ha.ok (by rw [← hd]; exact ha.sb)
  have eb := br_four hb.ok (by rw [← hd]; exact hb.sb)
  have ec := br_four hc.ok (by rw [← hd]; exact hc.sb)
  have f1 := insL_filter (f := isB) (ss := enum c []) (l := insL (enum a []) (enum b []))
  have f2 := insL_filter (f := isB) (ss := enum b []) (l := enum a [])
  unfold W3 at h1 ⊢
  omega
end Go.Proofs.YteipiejlljnclaaGreatDoor
end
section
namespace Go.Proofs.YteipiejlljnclaaGreatDoor
open Go
mutual
noncomputable def mp (f : Int → Int) : Tr → Tr
 | .lf v => .lf (f v)
 | .br s ks => mkbr s (mps f ks)
noncomputable def mps (f : Int → Int) : List Tr → List Tr
 | [] => []
 | k :: ks => mp f k :: mps f ks
end
theorem mps_map (f : Int → Int) : ∀ ks, mps f ks = ks.map (mp f)
 | [] => rfl
 | k :: ks => by rw [mps, mps_map f ks, List.map_cons]
theorem mp_lf (f : Int → Int) (v : Int) : mp f (.lf v) = .lf (f v) := by rw [mp]
theorem mp_br (f : Int → Int) (s : Nat) (ks : List Tr) : mp f (.br s ks) = mkbr s (ks.map (mp f)) := by rw [mp, mps_map]
theorem evs_map {W : Nat → Nat → List Tm} {h h' : Int → Rat} {g : Tr → Tr} {s : Nat} : ∀ (ks : List Tr) (i : Nat) (F : Mo → Rat), (∀ k ∈ ks, ∀ F, ev W h (g k) F = ev W h' k F) → evs W h s i (ks.map g) F = evs W h' s i ks F
 | [], _, _, _ => by rw [List.map_nil, evs, evs]
 | k :: ks, i, F, hk => by
  rw [List.map_cons, evs, evs, evs_map ks (i + 1) F fun x hx => hk x (.tail _ hx)]
  simp only [hk k (.head _)]
theorem ev_mp {ws : List (List (List Tm))} (hw : WOK ws) {h : Int → Rat} {f : Int → Int} : ∀ {t : Tr}, Ok wid t → sd ws.length t → ∀ F, ev (wt ws) h (mp f t) F = ev (wt ws) (fun v => h (f v)) t F := by
 intro t
 induction t using Tr.ind with
 | hl v => intro _ _ F; rw [mp_lf, ev, ev]
 | hb s ks ih =>
  intro hok hsd F
  rw [sd, sds_iff] at hsd
  cases hok with
  | br h1 hl h2 h3 hr hk ho =>
   rw [mp_br, ev_mkbr hw hsd.1 (by rw [List.length_map]; exact hl), evs_map ks 0 F fun k hkk => ih k hkk (hk k hkk) (hsd.2 k hkk), ev]
theorem mp_ne {f : Int → Int} {s : Nat} {ks : List Tr} (h : ks.length = wid s) : ks.map (mp f) ≠ [] := wid_ne (s := s) (by rw [List.length_map]; exact h)
theorem mp_site {f : Int → Int} {m : Int} : ∀ {t : Tr}, Ok wid t → (siteOf t < 0 ∨ m ≤ siteOf t) → siteOf (mp f t) < 0 ∨ m ≤ siteOf (mp f t) := by
 intro t
 induction t using Tr.ind with
 | hl v => intro _ _; rw [mp_lf]; left; simp [siteOf]
 | hb s ks ih =>
  intro hok hs
  cases hok with
  | br h1 hl h2 h3 hr hk ho =>
   simp only [siteOf] at hs
   have hkk : ∀ k ∈ ks.map (mp f), siteOf k < 0 ∨ m ≤ siteOf k := by
    intro k hkm
    obtain ⟨x, hx, rfl⟩ := List.mem_map.1 hkm
    exact ih x hx (hk x hx) (by have := ho x hx; omega)
   rw [mp_br]
   unfold mkbr
   split
   ·cases ks with
    | nil => simp at hl; omega
    | cons k ks => exact hkk _ (by rw [List.map_cons, List.headD_cons]; exact .head _)
   ·simp only [siteOf]; omega
theorem mp_ok {f : Int → Int} {lo hi : Int} (hf : ∀ v, lo ≤ v → v ≤ hi → -17 < f v ∧ f v < 17) : ∀ {t : Tr}, Ok wid t → lv lo hi t → Ok wid (mp f t) := by
 intro t
 induction t using Tr.ind with
 | hl v =>
  intro _ h
  rw [lv] at h
  have := hf v h.1 h.2
  rw [mp_lf]; exact .lf (by omega) (by omega)
 | hb s ks ih =>
  intro hok hlv
  rw [lv, lvs_iff] at hlv
  cases hok with
  | br h1 hl h2 h3 hr hk ho =>
   rw [mp_br]
   refine mkbr_ok h1 (by rw [List.length_map]; exact hl) (fun k hkm => ?_) fun k hkm => ?_
   ·obtain ⟨x, hx, rfl⟩ := List.mem_map.1 hkm
    exact ih x hx (hk x hx) (hlv x hx)
   ·obtain ⟨x, hx, rfl⟩ := List.mem_map.1 hkm
    have := mp_site (f := f) (m := (s : Int) + 1) (hk x hx) (by have := ho x hx; omega)
    omega
theorem mp_sd {f : Int → Int} {lo hi : Int} {n : Nat} (hf : ∀ v, lo ≤ v → v ≤ hi → -17 < f v ∧ f v < 17) : ∀ {t : Tr}, Ok wid t → sd n t → lv lo hi t → sd n (mp f t) := by
 intro t
 induction t using Tr.ind with
 | hl v => intro _ _ h; rw [lv] at h; rw [mp_lf, sd]; exact hf v h.1 h.2
 | hb s ks ih =>
  intro hok hsd hlv
  rw [lv, lvs_iff] at hlv
  rw [sd, sds_iff] at hsd
  cases hok with
  | br h1 hl h2 h3 hr hk ho =>
   rw [mp_br]
   refine mkbr_sd hsd.1 (fun k hkm => ?_) (mp_ne hl)
   obtain ⟨x, hx, rfl⟩ := List.mem_map.1 hkm
   exact ih x hx (hk x hx) (hsd.2 x hx) (hlv x hx)
theorem mp_lv {f : Int → Int} {lo hi lo' hi' : Int} (hf : ∀ v, lo ≤ v → v ≤ hi → lo' ≤ f v ∧ f v ≤ hi') : ∀ {t : Tr}, Ok wid t → lv lo hi t → lv lo' hi' (mp f t) := by
 intro t
 induction t using Tr.ind with
 | hl v => intro _ h; rw [lv] at h; rw [mp_lf, lv]; exact hf v h.1 h.2
 | hb s ks ih =>
  intro hok hlv
  rw [lv, lvs_iff] at hlv
  cases hok with
  | br h1 hl h2 h3 hr hk ho =>
   rw [mp_br]
   refine mkbr_lv (fun k hkm => ?_) (mp_ne hl)
   obtain ⟨x, hx, rfl⟩ := List.mem_map.1 hkm
   exact ih x hx (hk x hx) (hlv x hx)
theorem szs_mp {f : Tr → Tr} : ∀ {ks : List Tr}, (∀ k ∈ ks, (f k).sz ≤ k.sz) → szs (ks.map f) ≤ szs ks
 | [], _ => Nat.le_refl _
 | k :: ks, h => by
  have h1 := h k (.head _)
  have h2 := szs_mp (f := f) (ks := ks) fun x hx => h x (.tail _ hx)
  simp only [List.map_cons, szs]; omega
theorem mp_sz {f : Int → Int} : ∀ {t : Tr}, Ok wid t → (mp f t).sz ≤ t.sz := by
 intro t
 induction t using Tr.ind with
 | hl v => intro _; rw [mp_lf, Tr.sz, Tr.sz]; exact Nat.le_refl _
 | hb s ks ih =>
  intro hok
  cases hok with
  | br h1 hl h2 h3 hr hk ho =>
   have h1 := mkbr_sz s (ks.map (mp f)) (mp_ne hl)
   have h2 := szs_mp (f := mp f) (ks := ks) fun k hkk => ih k hkk (hk k hkk)
   rw [mp_br, Tr.sz]
   omega
theorem mp_in {f : Int → Int} (hf : ∀ v, -2 ≤ v → v ≤ 3 → -17 < f v ∧ f v < 17) {t : Tr} {ds : List (Int × List (List Tm))} (h : Rin t ds) (hl : lv (-2) 3 t) : Rin (mp f t) ds :=
 ⟨mp_ok hf h.ok hl, Nat.le_trans (mp_sz h.ok) h.sz, mp_sd hf h.ok h.sb hl, h.w, h.dl⟩
noncomputable def fsum (f : Int → Int) (l : List Tr) (m : List (List Tm)) : Nat → List Tm
 | 0 => []
 | i + 1 => if siteOf (gt l i) < 0 then padd (fsum f l m i) (pmul (gl m i) (pconst (f (valOf (gt l i)) : Int))) else fsum f l m i
theorem fsum_Cn (f : Int → Int) (l : List Tr) (m : List (List Tm)) : ∀ n, Cn (fsum f l m n)
 | 0 => Cn.nil
 | n + 1 => by
  rw [fsum]
  split
  ·exact padd_Cn _ _
  ·exact fsum_Cn f l m n
theorem fsum_L (f : Int → Int) (l : List Tr) (m : List (List Tm)) (F : Mo → Rat) : ∀ n, L (fsum f l m n) F = tot (fun j => if siteOf (gt l j) < 0 then (f (valOf (gt l j)) : Rat) * L (gl m j) F else 0) n
 | 0 => rfl
 | n + 1 => by
  rw [fsum, tot, ← fsum_L f l m F n]
  split
  ·rw [padd_L, pmul_L]
   simp only [pconst_L, Mo.add_zero]
   rw [L_mulc]
  ·rw [Rat.add_zero]
theorem fsum_PQ {f : Int → Int} {l : List Tr} {m : List (List Tm)} {U : Nat} (h : ∀ x, PQ U (gl m x)) : ∀ n, n ≤ l.length → (∀ t ∈ l, (f (valOf t)).natAbs ≤ 16) → PQ (U + 2 + n) (fsum f l m n)
 | 0, _, _ => PQ.nil _
 | n + 1, hn, hv => by
  have ih := fsum_PQ (l := l) h n (by omega) hv
  rw [fsum]
  split
  ·exact ih.padd (((h n).scale (hv _ (gt_mem (by omega)))).mono (by omega))
  ·exact ih.mono (by omega)
theorem exq_mp {f : Int → Int} (hf : ∀ v, -2 ≤ v → v ≤ 3 → -17 < f v ∧ f v < 17) {t : Tr} {ds : List (Int × List (List Tm))} (h : Rin t ds) (hl : lv (-2) 3 t) :
  exq (mp f t) ds = fsum f (enum t []) (msA (wt (wsO ds)) (enum t [])) (enum t []).length := by
 refine (exq_Cn _ _).ext (fsum_Cn _ _ _ _) fun F => ?_
 have hm := msA_flow (W := wt (wsO ds)) (h := fun v => (f v : Rat)) (enum_clo (t := t) .nil) (List.length_pos_of_mem (mem_enum t [])) F
 rw [enum_root] at hm
 rw [exq_L, fsum_L, hm]
 exact ev_mp h.w h.ok (by rw [List.length_map]; exact h.sb) F
end Go.Proofs.YteipiejlljnclaaGreatDoor
end
