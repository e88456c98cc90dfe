/- Decision diagrams as trees: the list of the distinct subtrees in the order in which a depth-first search finishes them; tables of distinct trees. No program in sight; conditions stand in each theorem. -/
import Derived.KernelRfl
set_option linter.unusedVariables false
set_option linter.unusedSimpArgs false
section
namespace Go.Proofs.YteipiejlljnclaaGreatDoor
inductive Tr where
 | lf (v : Int)
 | br (s : Nat) (ks : List Tr)
 deriving Inhabited
noncomputable instance : DecidableEq Tr := fun a b => Classical.propDecidable (a = b)
theorem Tr.ind {p : Tr → Prop} (hl : ∀ v, p (.lf v)) (hb : ∀ s ks, (∀ k ∈ ks, p k) → p (.br s ks)) : ∀ t, p t :=
 fun t => Tr.rec (motive_1 := p) (motive_2 := fun l => ∀ k ∈ l, p k) hl hb (by simp) (fun k ks h1 h2 => by
  intro x hx
  rcases List.mem_cons.mp hx with rfl | hx
  ·exact h1
  ·exact h2 x hx) t
mutual
def Tr.sz : Tr → Nat
 | .lf _ => 1
 | .br _ ks => 1 + szs ks
def szs : List Tr → Nat
 | [] => 0
 | k :: ks => k.sz + szs ks
end
theorem sz_pos (t : Tr) : 0 < t.sz := by cases t <;> simp [Tr.sz] <;> omega
theorem sz_le_szs {k : Tr} : ∀ {ks : List Tr}, k ∈ ks → k.sz ≤ szs ks
 | a :: ks, h => by
  rcases List.mem_cons.mp h with rfl | h
  ·simp [szs]
  ·have := sz_le_szs h; simp only [szs]; omega
theorem sz_kid {s : Nat} {ks : List Tr} {k : Tr} (h : k ∈ ks) : k.sz < (Tr.br s ks).sz := by
 have := sz_le_szs h; simp only [Tr.sz]; omega
mutual
noncomputable def enum : Tr → List Tr → List Tr
 | .lf v, l => if Tr.lf v ∈ l then l else l ++ [Tr.lf v]
 | .br s ks, l => if Tr.br s ks ∈ l then l else enums ks l ++ [Tr.br s ks]
noncomputable def enums : List Tr → List Tr → List Tr
 | [], l => l
 | k :: ks, l => enums ks (enum k l)
end
def kidsOf : Tr → List Tr
 | .lf _ => []
 | .br _ ks => ks
def siteOf : Tr → Int
 | .lf _ => -1
 | .br s _ => s
def valOf : Tr → Int
 | .lf v => v
 | .br _ _ => 0
theorem enum_eq (t : Tr) (l : List Tr) : enum t l = if t ∈ l then l else enums (kidsOf t) l ++ [t] := by
 cases t <;> simp [enum, kidsOf, enums]
theorem enum_of_mem {t : Tr} {l : List Tr} (h : t ∈ l) : enum t l = l := by rw [enum_eq, if_pos h]
theorem enum_of_not {t : Tr} {l : List Tr} (h : t ∉ l) : enum t l = enums (kidsOf t) l ++ [t] := by rw [enum_eq, if_neg h]
@[simp] theorem enums_nil (l : List Tr) : enums [] l = l := by simp [enums]
@[simp] theorem enums_cons (k : Tr) (ks l : List Tr) : enums (k :: ks) l = enums ks (enum k l) := by simp [enums]
theorem kid_sz {t k : Tr} (h : k ∈ kidsOf t) : k.sz < t.sz := by
 cases t with
 | lf v => simp [kidsOf] at h
 | br s ks => exact sz_kid h
theorem enum_ind {p : Tr → List Tr → List Tr → Prop} {q : List Tr → List Tr → List Tr → Prop}
  (h1 : ∀ t l, t ∈ l → p t l l) (h2 : ∀ t l r, t ∉ l → q (kidsOf t) l r → p t l (r ++ [t]))
  (h3 : ∀ l, q [] l l) (h4 : ∀ k ks l r r', p k l r → q ks r r' → q (k :: ks) l r') :
  (∀ t l, p t l (enum t l)) ∧ (∀ ks l, q ks l (enums ks l)) := by
 have key : ∀ t, ∀ l, p t l (enum t l) := by
  intro t
  induction t using Tr.ind with
  | hl v =>
   intro l
   by_cases h : Tr.lf v ∈ l
   ·rw [enum_of_mem h]; exact h1 _ _ h
   ·rw [enum_of_not h]; exact h2 _ _ _ h (by simpa [kidsOf] using h3 l)
  | hb s ks ih =>
   intro l
   by_cases h : Tr.br s ks ∈ l
   ·rw [enum_of_mem h]; exact h1 _ _ h
   ·rw [enum_of_not h]
    refine h2 _ _ _ h ?_
    simp only [kidsOf]
    clear h
    induction ks generalizing l with
    | nil => simpa using h3 l
    | cons k ks ihk =>
     rw [enums_cons]
     exact h4 _ _ _ _ _ (ih k (by simp) l) (ihk (fun x hx => ih x (by simp [hx])) _)
 refine ⟨key, ?_⟩
 intro ks
 induction ks with
 | nil => intro l; simpa using h3 l
 | cons k ks ihk => intro l; rw [enums_cons]; exact h4 _ _ _ _ _ (key k l) (ihk _)
theorem enum_pre' : (∀ t l, l <+: enum t l) ∧ (∀ ks l, l <+: enums ks l) :=
 enum_ind (p := fun _ l r => l <+: r) (q := fun _ l r => l <+: r) (fun _ l _ => List.prefix_refl l) (fun t l r _ h => h.trans (List.prefix_append r [t])) (fun l => List.prefix_refl l) (fun _ _ _ _ _ h h' => h.trans h')
theorem enum_pre (t : Tr) (l : List Tr) : l <+: enum t l := enum_pre'.1 t l
theorem enums_pre (ks l : List Tr) : l <+: enums ks l := enum_pre'.2 ks l
theorem mem_enum (t : Tr) (l : List Tr) : t ∈ enum t l := by
 by_cases h : t ∈ l
 ·rw [enum_of_mem h]; exact h
 ·rw [enum_of_not h]; simp
theorem mem_of_pre {l r : List Tr} {x : Tr} (h : l <+: r) (hx : x ∈ l) : x ∈ r := h.subset hx
theorem mem_enums {ks : List Tr} : ∀ {l : List Tr} {k : Tr}, k ∈ ks → k ∈ enums ks l := by
 induction ks with
 | nil => intro l k h; simp at h
 | cons a ks ih =>
  intro l k h
  rw [enums_cons]
  rcases List.mem_cons.mp h with rfl | h
  ·exact mem_of_pre (enums_pre ks _) (mem_enum _ l)
  ·exact ih h
theorem enum_all' (P : Tr → Prop) (hk : ∀ t, P t → ∀ k ∈ kidsOf t, P k) : (∀ t l, P t → (∀ x ∈ l, P x) → ∀ x ∈ enum t l, P x) ∧ (∀ ks l, (∀ k ∈ ks, P k) → (∀ x ∈ l, P x) → ∀ x ∈ enums ks l, P x) := by
 refine enum_ind (p := fun t l r => P t → (∀ x ∈ l, P x) → ∀ x ∈ r, P x) (q := fun ks l r => (∀ k ∈ ks, P k) → (∀ x ∈ l, P x) → ∀ x ∈ r, P x) (fun t l _ _ h => h) ?_ (fun l _ h => h) ?_
 ·intro t l r _ h ht hl x hx
  rcases List.mem_append.mp hx with hx | hx
  ·exact h (hk t ht) hl x hx
  ·rw [List.mem_singleton.mp hx]; exact ht
 ·intro k ks l r r' h h' hks hl
  exact h' (fun x hx => hks x (by simp [hx])) (h (hks k (by simp)) hl)
theorem enum_all {P : Tr → Prop} (hk : ∀ t, P t → ∀ k ∈ kidsOf t, P k) {t : Tr} {l : List Tr} (ht : P t) (hl : ∀ x ∈ l, P x) : ∀ x ∈ enum t l, P x := (enum_all' P hk).1 t l ht hl
theorem enums_all {P : Tr → Prop} (hk : ∀ t, P t → ∀ k ∈ kidsOf t, P k) {ks l : List Tr} (ht : ∀ k ∈ ks, P k) (hl : ∀ x ∈ l, P x) : ∀ x ∈ enums ks l, P x := (enum_all' P hk).2 ks l ht hl
theorem enum_le' : (∀ t l, ∀ x ∈ enum t l, x ∈ l ∨ x.sz ≤ t.sz) ∧ (∀ ks l, ∀ x ∈ enums ks l, x ∈ l ∨ ∃ k ∈ ks, x.sz ≤ k.sz) := by
 refine enum_ind (p := fun t l r => ∀ x ∈ r, x ∈ l ∨ x.sz ≤ t.sz) (q := fun ks l r => ∀ x ∈ r, x ∈ l ∨ ∃ k ∈ ks, x.sz ≤ k.sz) (fun t l _ x h => Or.inl h) ?_ (fun l x h => Or.inl h) ?_
 ·intro t l r _ h x hx
  rcases List.mem_append.mp hx with hx | hx
  ·rcases h x hx with h | ⟨k, hk, hle⟩
   ·exact Or.inl h
   ·have := kid_sz hk; exact Or.inr (by omega)
  ·rw [List.mem_singleton.mp hx]; exact Or.inr (Nat.le_refl _)
 ·intro k ks l r r' h h' x hx
  rcases h' x hx with h1 | ⟨a, ha, hle⟩
  ·rcases h x h1 with h2 | h2
   ·exact Or.inl h2
   ·exact Or.inr ⟨k, by simp, h2⟩
  ·exact Or.inr ⟨a, by simp [ha], hle⟩
theorem enum_le {t x : Tr} {l : List Tr} (h : x ∈ enum t l) : x ∈ l ∨ x.sz ≤ t.sz := enum_le'.1 t l x h
theorem not_enums {t : Tr} {ks l : List Tr} (h : t ∉ l) (hk : ∀ k ∈ ks, k.sz < t.sz) : t ∉ enums ks l := by
 intro hx
 rcases enum_le'.2 ks l t hx with h1 | ⟨k, hk', hle⟩
 ·exact h h1
 ·have := hk k hk'; omega
theorem not_kids {t : Tr} {l : List Tr} (h : t ∉ l) : t ∉ enums (kidsOf t) l := not_enums h fun k hk => kid_sz hk
theorem enum_nodup' : (∀ t l, l.Nodup → (enum t l).Nodup) ∧ (∀ ks l, l.Nodup → (enums ks l).Nodup) := by
 have key : ∀ t, ∀ l : List Tr, l.Nodup → (enum t l).Nodup := by
  intro t
  induction t using Tr.ind with
  | hl v =>
   intro l h
   by_cases hm : Tr.lf v ∈ l
   ·rw [enum_of_mem hm]; exact h
   ·rw [enum_of_not hm]; simp only [kidsOf, enums_nil]
    exact List.nodup_append.mpr ⟨h, by simp, by intro a ha b hb; rw [List.mem_singleton.mp hb]; rintro rfl; exact hm ha⟩
  | hb s ks ih =>
   intro l h
   by_cases hm : Tr.br s ks ∈ l
   ·rw [enum_of_mem hm]; exact h
   ·have hn := not_kids hm
    rw [enum_of_not hm]
    have hks : (enums (kidsOf (.br s ks)) l).Nodup := by
     simp only [kidsOf]
     clear hm hn
     induction ks generalizing l with
     | nil => simpa using h
     | cons k ks ihk => rw [enums_cons]; exact ihk (fun x hx => ih x (by simp [hx])) _ (ih k (by simp) l h)
    exact List.nodup_append.mpr ⟨hks, by simp, by intro a ha b hb; rw [List.mem_singleton.mp hb]; rintro rfl; exact hn ha⟩
 refine ⟨key, ?_⟩
 intro ks
 induction ks with
 | nil => intro l h; simpa using h
 | cons k ks ihk => intro l h; rw [enums_cons]; exact ihk _ (key k l h)
theorem enum_nodup {t : Tr} {l : List Tr} (h : l.Nodup) : (enum t l).Nodup := enum_nodup'.1 t l h
theorem enums_nodup {ks l : List Tr} (h : l.Nodup) : (enums ks l).Nodup := enum_nodup'.2 ks l h
inductive Clo : List Tr → Prop
 | nil : Clo []
 | snoc {l : List Tr} {t : Tr} (h : Clo l) (hk : ∀ k ∈ kidsOf t, k ∈ l) : Clo (l ++ [t])
theorem enum_clo' : (∀ t l, Clo l → Clo (enum t l)) ∧ (∀ ks l, Clo l → Clo (enums ks l)) := by
 have key : ∀ t, ∀ l : List Tr, Clo l → Clo (enum t l) := by
  intro t
  induction t using Tr.ind with
  | hl v =>
   intro l h
   by_cases hm : Tr.lf v ∈ l
   ·rw [enum_of_mem hm]; exact h
   ·rw [enum_of_not hm]; simp only [kidsOf, enums_nil]; exact h.snoc (by simp [kidsOf])
  | hb s ks ih =>
   intro l h
   by_cases hm : Tr.br s ks ∈ l
   ·rw [enum_of_mem hm]; exact h
   ·rw [enum_of_not hm]
    have hks : Clo (enums (kidsOf (.br s ks)) l) := by
     simp only [kidsOf]
     clear hm
     induction ks generalizing l with
     | nil => simpa using h
     | cons k ks ihk => rw [enums_cons]; exact ihk (fun x hx => ih x (by simp [hx])) _ (ih k (by simp) l h)
    exact hks.snoc fun k hk => mem_enums hk
 refine ⟨key, ?_⟩
 intro ks
 induction ks with
 | nil => intro l h; simpa using h
 | cons k ks ihk => intro l h; rw [enums_cons]; exact ihk _ (key k l h)
theorem enum_clo {t : Tr} {l : List Tr} (h : Clo l) : Clo (enum t l) := enum_clo'.1 t l h
theorem enums_clo {ks l : List Tr} (h : Clo l) : Clo (enums ks l) := enum_clo'.2 ks l h
theorem Clo.kids {l : List Tr} (h : Clo l) : ∀ {t : Tr}, t ∈ l → ∀ k ∈ kidsOf t, k ∈ l := by
 induction h with
 | nil => intro t ht; simp at ht
 | snoc h hk ih =>
  intro t ht k hkk
  rcases List.mem_append.mp ht with ht | ht
  ·exact List.mem_append.mpr (Or.inl (ih ht k hkk))
  ·rw [List.mem_singleton.mp ht] at hkk; exact List.mem_append.mpr (Or.inl (hk k hkk))
theorem Clo.at {l : List Tr} (h : Clo l) : ∀ {i : Nat} (hi : i < l.length), ∀ k ∈ kidsOf l[i], k ∈ l.take i := by
 induction h with
 | nil => intro i hi; simp at hi
 | @snoc l t h hk ih =>
  intro i hi k hkk
  by_cases h1 : i < l.length
  ·rw [List.getElem_append_left h1] at hkk
   rw [List.take_append_of_le_length (by omega)]
   exact ih h1 k hkk
  ·have hi' : i = l.length := by simp at hi; omega
   subst hi'
   simp at hkk
   simpa using hk k hkk
structure Nd where
 site : Int
 value : Int
 kids : List Int
 deriving DecidableEq, Inhabited
noncomputable def ix (l : List Tr) (k : Tr) : Nat := l.idxOf k
noncomputable def nd (l : List Tr) (t : Tr) : Nd := ⟨siteOf t, valOf t, (kidsOf t).map fun k => (ix l k : Int)⟩
noncomputable def nds (l : List Tr) : List Nd := l.map (nd l)
@[simp] theorem nds_length (l : List Tr) : (nds l).length = l.length := by simp [nds]
theorem ix_lt {l : List Tr} {k : Tr} (h : k ∈ l) : ix l k < l.length := List.idxOf_lt_length_iff.mpr h
theorem get_ix {l : List Tr} {k : Tr} (h : k ∈ l) : l[ix l k]'(ix_lt h) = k := by simp [ix]
theorem ix_inj {l : List Tr} {a b : Tr} (ha : a ∈ l) (hb : b ∈ l) (h : ix l a = ix l b) : a = b := by
 have h1 := get_ix ha; have h2 := get_ix hb
 rw [← h1, ← h2]; simp [h]
theorem ix_pre {l r : List Tr} {k : Tr} (h : l <+: r) (hk : k ∈ l) : ix r k = ix l k := by
 obtain ⟨s, rfl⟩ := h
 simp only [ix]
 rw [List.idxOf_append]
 simp [hk]
theorem ix_get {l : List Tr} (hn : l.Nodup) {i : Nat} (hi : i < l.length) : ix l l[i] = i := by
 exact hn.idxOf_getElem i hi
theorem ix_snoc {l : List Tr} {t : Tr} (h : t ∉ l) : ix (l ++ [t]) t = l.length := by
 simp only [ix]; rw [List.idxOf_append]; simp [h]
theorem nd_pre {l r : List Tr} {t : Tr} (h : l <+: r) (hk : ∀ k ∈ kidsOf t, k ∈ l) : nd r t = nd l t := by
 simp only [nd, Nd.mk.injEq, true_and]
 exact List.map_congr_left fun k hkk => by rw [ix_pre h (hk k hkk)]
theorem nd_inj {l : List Tr} {s t : Tr} (hs : ∀ k ∈ kidsOf s, k ∈ l) (ht : ∀ k ∈ kidsOf t, k ∈ l) (h : nd l s = nd l t) : s = t := by
 have key : ∀ {a b : List Tr}, (∀ k ∈ a, k ∈ l) → (∀ k ∈ b, k ∈ l) → a.map (fun k => (ix l k : Int)) = b.map (fun k => (ix l k : Int)) → a = b := by
  intro a
  induction a with
  | nil => intro b _ _ hab; cases b with | nil => rfl | cons y b => simp at hab
  | cons x a ih =>
   intro b ha hb hab
   cases b with
   | nil => simp at hab
   | cons y b =>
    simp only [List.map_cons, List.cons.injEq] at hab
    rw [ix_inj (ha x (by simp)) (hb y (by simp)) (by omega), ih (fun k hk => ha k (by simp [hk])) (fun k hk => hb k (by simp [hk])) hab.2]
 simp only [nd, Nd.mk.injEq] at h
 obtain ⟨h1, h2, h3⟩ := h
 have h3' := key hs ht h3
 cases s with
 | lf a => cases t with
  | lf b => simp only [valOf] at h2; rw [h2]
  | br b ks => simp only [siteOf] at h1; omega
 | br a ks => cases t with
  | lf b => simp only [siteOf] at h1; omega
  | br b ks' => simp only [siteOf, kidsOf] at h1 h3'; rw [h3', show a = b by omega]
theorem nds_snoc {l : List Tr} {t : Tr} (hc : Clo l) (hk : ∀ k ∈ kidsOf t, k ∈ l) : nds (l ++ [t]) = nds l ++ [nd l t] := by
 simp only [nds, List.map_append, List.map_cons, List.map_nil]
 congr 1
 ·exact List.map_congr_left fun x hx => nd_pre (List.prefix_append _ _) (hc.kids hx)
 ·rw [nd_pre (List.prefix_append _ _) hk]
noncomputable def insT (l : List Tr) (t : Tr) : List Tr := if t ∈ l then l else l ++ [t]
theorem ins_pre (l : List Tr) (t : Tr) : l <+: insT l t := by
 unfold insT; split
 ·exact List.prefix_refl l
 ·exact List.prefix_append l [t]
theorem mem_ins (l : List Tr) (t : Tr) : t ∈ insT l t := by unfold insT; split <;> simp [*]
theorem ins_clo {l : List Tr} {t : Tr} (h : Clo l) (hk : ∀ k ∈ kidsOf t, k ∈ l) : Clo (insT l t) := by
 unfold insT; split
 ·exact h
 ·exact h.snoc hk
theorem ins_nodup {l : List Tr} {t : Tr} (h : l.Nodup) : (insT l t).Nodup := by
 unfold insT; split
 ·exact h
 ·rename_i hm
  exact List.nodup_append.mpr ⟨h, by simp, by intro a ha b hb; rw [List.mem_singleton.mp hb]; rintro rfl; exact hm ha⟩
def same : List Tr → Prop
 | [] => True
 | k :: ks => ∀ x ∈ ks, x = k
noncomputable def mkbr (s : Nat) (ks : List Tr) : Tr := open Classical in if same ks then ks.headD (.lf 0) else .br s ks
inductive Ok (w : Nat → Nat) : Tr → Prop
 | lf {v : Int} (h1 : -1073741824 ≤ v) (h2 : v ≤ 1073741824) : Ok w (.lf v)
 | br {s : Nat} {ks : List Tr} (hs : s < 64) (hw : ks.length = w s) (h1 : 1 ≤ w s) (h2 : w s ≤ 16) (hr : ¬ same ks) (hk : ∀ k ∈ ks, Ok w k) (ho : ∀ k ∈ ks, siteOf k < 0 ∨ (s : Int) < siteOf k) : Ok w (.br s ks)
theorem Ok.kid {w : Nat → Nat} {t : Tr} (h : Ok w t) : ∀ k ∈ kidsOf t, Ok w k := by
 cases h with
 | lf => simp [kidsOf]
 | br _ _ _ _ _ hk _ => simpa [kidsOf] using hk
theorem Ok.enum {w : Nat → Nat} {t : Tr} {l : List Tr} (h : Ok w t) (hl : ∀ x ∈ l, Ok w x) : ∀ x ∈ enum t l, Ok w x := enum_all (fun _ h => h.kid) h hl
theorem enum_last (t : Tr) {l : List Tr} (h : t ∉ l) : (enum t l).getLast? = some t := by rw [enum_of_not h]; simp
end Go.Proofs.YteipiejlljnclaaGreatDoor
end
section
namespace Go.Proofs.YteipiejlljnclaaGreatDoor
noncomputable def fin : List (Tr × Nat) → List Tr → List Tr
 | [], l => l
 | x :: S, l => fin S (enums ((kidsOf x.1).drop x.2) l ++ [x.1])
mutual
noncomputable def ce : Tr → List Tr → Nat
 | .lf v, l => if Tr.lf v ∈ l then 0 else 1
 | .br s ks, l => if Tr.br s ks ∈ l then 0 else 1 + ces ks l
noncomputable def ces : List Tr → List Tr → Nat
 | [], _ => 0
 | k :: ks, l => 1 + ce k l + ces ks (enum k l)
end
theorem ce_eq (t : Tr) (l : List Tr) : ce t l = if t ∈ l then 0 else 1 + ces (kidsOf t) l := by cases t <;> simp [ce, kidsOf, ces]
@[simp] theorem ces_nil (l : List Tr) : ces [] l = 0 := by simp [ces]
theorem ces_cons (k : Tr) (ks l : List Tr) : ces (k :: ks) l = 1 + ce k l + ces ks (enum k l) := by simp [ces]
noncomputable def rest : List (Tr × Nat) → List Tr → Nat
 | [], _ => 0
 | x :: S, l => ces ((kidsOf x.1).drop x.2) l + 1 + rest S (enums ((kidsOf x.1).drop x.2) l ++ [x.1])
theorem fin_old {t : Tr} {n : Nat} {S : List (Tr × Nat)} {l : List Tr} (hn : n < (kidsOf t).length) (hk : (kidsOf t)[n] ∈ l) :
  fin ((t, n + 1) :: S) l = fin ((t, n) :: S) l ∧ rest ((t, n + 1) :: S) l < rest ((t, n) :: S) l := by
 simp only [fin, rest]
 rw [List.drop_eq_getElem_cons hn, enums_cons, enum_of_mem hk, ces_cons, ce_eq, if_pos hk, enum_of_mem hk]
 exact ⟨rfl, by omega⟩
theorem fin_new {t : Tr} {n : Nat} {S : List (Tr × Nat)} {l : List Tr} (hn : n < (kidsOf t).length) (hk : (kidsOf t)[n] ∉ l) :
  fin (((kidsOf t)[n], 0) :: (t, n + 1) :: S) l = fin ((t, n) :: S) l ∧ rest (((kidsOf t)[n], 0) :: (t, n + 1) :: S) l < rest ((t, n) :: S) l := by
 simp only [fin, rest, List.drop_zero]
 rw [List.drop_eq_getElem_cons hn, enums_cons, ces_cons, ce_eq, if_neg hk, enum_of_not hk]
 exact ⟨rfl, by omega⟩
theorem fin_pop {t : Tr} {n : Nat} {S : List (Tr × Nat)} {l : List Tr} (hn : (kidsOf t).length ≤ n) :
  fin S (l ++ [t]) = fin ((t, n) :: S) l ∧ rest S (l ++ [t]) < rest ((t, n) :: S) l := by
 simp only [fin, rest]
 rw [List.drop_eq_nil_of_le hn]
 simp
def SOK (ts l : List Tr) : Option Tr → List (Tr × Nat) → Prop
 | _, [] => True
 | a, x :: S => x.1 ∈ ts ∧ x.1 ∉ l ∧ x.2 ≤ (kidsOf x.1).length ∧ (∀ k ∈ (kidsOf x.1).take x.2, k ∈ l ∨ a = some k) ∧ (∀ y, a = some y → y.sz < x.1.sz) ∧ SOK ts l (some x.1) S
theorem SOK.big {ts l : List Tr} : ∀ {S : List (Tr × Nat)} {a : Tr}, SOK ts l (some a) S → ∀ x ∈ S, a.sz < x.1.sz
 | [], _, _, x, hx => by simp at hx
 | y :: S, a, h, x, hx => by
  obtain ⟨_, _, _, _, h5, h6⟩ := h
  have h7 := h5 a rfl
  rcases List.mem_cons.mp hx with rfl | hx
  ·exact h7
  ·have := SOK.big h6 x hx; omega
theorem SOK.snoc {ts l : List Tr} {t : Tr} : ∀ {S : List (Tr × Nat)} {a : Option Tr}, SOK ts l a S → (∀ x ∈ S, t.sz < x.1.sz) → SOK ts (l ++ [t]) a S
 | [], _, _, _ => trivial
 | y :: S, a, h, hb => by
  obtain ⟨h1, h2, h3, h4, h5, h6⟩ := h
  have := hb y (by simp)
  refine ⟨h1, ?_, h3, fun k hk => ?_, h5, SOK.snoc h6 fun x hx => hb x (by simp [hx])⟩
  ·simp only [List.mem_append, List.mem_singleton, not_or]
   exact ⟨h2, fun h => by rw [h] at this; omega⟩
  ·rcases h4 k hk with h | h
   ·exact Or.inl (List.mem_append.mpr (Or.inl h))
   ·exact Or.inr h
theorem SOK.forget {ts l : List Tr} {t : Tr} : ∀ {S : List (Tr × Nat)}, SOK ts l (some t) S → t ∈ l → SOK ts l none S
 | [], _, _ => trivial
 | y :: S, h, hm => by
  obtain ⟨h1, h2, h3, h4, h5, h6⟩ := h
  refine ⟨h1, h2, h3, fun k hk => Or.inl ?_, by simp, h6⟩
  rcases h4 k hk with h | h
  ·exact h
  ·rw [Option.some.injEq] at h; rw [← h]; exact hm
theorem SOK.pop {ts l : List Tr} {t : Tr} {n : Nat} {S : List (Tr × Nat)} (h : SOK ts l none ((t, n) :: S)) : SOK ts (l ++ [t]) none S := by
 obtain ⟨h1, h2, h3, h4, h5, h6⟩ := h
 exact (h6.snoc (h6.big)).forget (by simp)
theorem SOK.old {ts l : List Tr} {t : Tr} {n : Nat} {S : List (Tr × Nat)} (h : SOK ts l none ((t, n) :: S)) (hn : n < (kidsOf t).length) (hk : (kidsOf t)[n] ∈ l) : SOK ts l none ((t, n + 1) :: S) := by
 obtain ⟨h1, h2, h3, h4, h5, h6⟩ := h
 refine ⟨h1, h2, hn, fun k hkk => ?_, by simp, h6⟩
 rw [List.take_succ_eq_append_getElem hn] at hkk
 rcases List.mem_append.mp hkk with h | h
 ·exact h4 k h
 ·rw [List.mem_singleton.mp h]; exact Or.inl hk
theorem SOK.push {ts l : List Tr} {t : Tr} {n : Nat} {S : List (Tr × Nat)} (hc : Clo ts) (h : SOK ts l none ((t, n) :: S)) (hn : n < (kidsOf t).length) (hk : (kidsOf t)[n] ∉ l) : SOK ts l none (((kidsOf t)[n], 0) :: (t, n + 1) :: S) := by
 obtain ⟨h1, h2, h3, h4, h5, h6⟩ := h
 refine ⟨hc.kids h1 _ (List.getElem_mem _), hk, by simp, by simp, by simp, h1, h2, hn, fun k hkk => ?_, fun y hy => ?_, h6⟩
 ·rw [List.take_succ_eq_append_getElem hn] at hkk
  rcases List.mem_append.mp hkk with h | h
  ·exact Or.inl ((h4 k h).resolve_right (by simp))
  ·rw [List.mem_singleton.mp h]; exact Or.inr rfl
 ·rw [Option.some.injEq] at hy; rw [← hy]; exact kid_sz (List.getElem_mem _)
theorem SOK.all_kids {ts l : List Tr} {t : Tr} {n : Nat} {S : List (Tr × Nat)} (h : SOK ts l none ((t, n) :: S)) (hn : (kidsOf t).length ≤ n) : ∀ k ∈ kidsOf t, k ∈ l := by
 obtain ⟨h1, h2, h3, h4, h5, h6⟩ := h
 intro k hk
 rw [List.take_of_length_le hn] at h4
 exact (h4 k hk).resolve_right (by simp)
theorem SOK.ends {ts l : List Tr} (t : Tr) (h : t ∈ ts) (hl : t ∉ l) : SOK ts l none [(t, 0)] := ⟨h, hl, by simp, by simp, by simp, trivial⟩
theorem fin_root {t : Tr} {l : List Tr} (h : t ∉ l) : fin [(t, 0)] l = enum t l := by simp [fin, enum_of_not h]
noncomputable def insL (l ss : List Tr) : List Tr := ss.foldl insT l
@[simp] theorem insL_nil (l : List Tr) : insL l [] = l := rfl
theorem insL_snoc (l ss : List Tr) (t : Tr) : insL l (ss ++ [t]) = insT (insL l ss) t := by simp [insL]
theorem insL_pre (l ss : List Tr) : l <+: insL l ss := by
 induction ss generalizing l with
 | nil => exact List.prefix_refl l
 | cons t ss ih => exact (ins_pre l t).trans (ih (insT l t))
theorem mem_insL {l ss : List Tr} {t : Tr} (h : t ∈ ss) : t ∈ insL l ss := by
 induction ss generalizing l with
 | nil => simp at h
 | cons a ss ih =>
  rcases List.mem_cons.mp h with rfl | h
  ·exact mem_of_pre (insL_pre (insT l t) ss) (mem_ins l t)
  ·exact ih h
theorem insL_nodup {l ss : List Tr} (h : l.Nodup) : (insL l ss).Nodup := by
 induction ss generalizing l with
 | nil => exact h
 | cons a ss ih => exact ih (ins_nodup h)
theorem insL_clo {l ss : List Tr} (h : Clo l) (hs : Clo ss) : Clo (insL l ss) := by
 induction hs with
 | nil => exact h
 | snoc hs hk ih => rw [insL_snoc]; exact ins_clo ih fun k hkk => mem_insL (hk k hkk)
theorem ins_sub {l : List Tr} {t x : Tr} (h : x ∈ insT l t) : x ∈ l ∨ x = t := by
 unfold insT at h
 split at h
 ·exact Or.inl h
 ·rcases List.mem_append.mp h with h | h
  ·exact Or.inl h
  ·exact Or.inr (List.mem_singleton.mp h)
theorem insL_sub {ss : List Tr} : ∀ {l : List Tr} {x : Tr}, x ∈ insL l ss → x ∈ l ∨ x ∈ ss := by
 induction ss with
 | nil => intro l x h; exact Or.inl h
 | cons a ss ih =>
  intro l x h
  rcases ih h with h | h
  ·rcases ins_sub h with h | h
   ·exact Or.inl h
   ·exact Or.inr (by simp [h])
  ·exact Or.inr (by simp [h])
theorem ins_len (l : List Tr) (t : Tr) : (insT l t).length ≤ l.length + 1 := by unfold insT; split <;> simp
theorem insL_len (l ss : List Tr) : (insL l ss).length ≤ l.length + ss.length := by
 induction ss generalizing l with
 | nil => simp
 | cons a ss ih => have := ih (insT l a); have := ins_len l a; simp only [insL, List.foldl_cons, List.length_cons] at *; omega
theorem Clo.take {l : List Tr} (h : Clo l) : ∀ i, Clo (l.take i) := by
 induction h with
 | nil => intro i; simpa using Clo.nil
 | @snoc l t h hk ih =>
  intro i
  by_cases hi : i ≤ l.length
  ·rw [List.take_append_of_le_length hi]; exact ih i
  ·rw [List.take_of_length_le (by simp; omega)]; exact h.snoc hk
theorem insL_self {l : List Tr} (h : l.Nodup) : insL [] l = l := by
 have key : ∀ i ≤ l.length, insL [] (l.take i) = l.take i := by
  intro i
  induction i with
  | zero => intro _; simp
  | succ i ih =>
   intro hi
   rw [List.take_succ_eq_append_getElem (by omega), insL_snoc, ih (by omega), insT, if_neg]
   intro hm
   obtain ⟨j, hj, he⟩ := List.mem_iff_getElem.mp hm
   have hj' : j < i := by simp at hj; omega
   rw [List.getElem_take] at he
   have e1 := ix_get h (show j < l.length by omega)
   have e2 := ix_get h (show i < l.length by omega)
   rw [he, e2] at e1
   omega
 have := key l.length (Nat.le_refl _)
 simpa using this
theorem enum_len' : (∀ t l, (enum t l).length ≤ l.length + t.sz) ∧ (∀ ks l, (enums ks l).length ≤ l.length + szs ks) := by
 refine enum_ind (p := fun t l r => r.length ≤ l.length + t.sz) (q := fun ks l r => r.length ≤ l.length + szs ks) (fun t l _ => by omega) ?_ (fun l => by simp [szs]) ?_
 ·intro t l r _ h
  have : szs (kidsOf t) + 1 ≤ t.sz := by cases t <;> simp [kidsOf, szs, Tr.sz] <;> omega
  simp; omega
 ·intro k ks l r r' h h'
  simp only [szs]; omega
theorem enum_len (t : Tr) (l : List Tr) : (enum t l).length ≤ l.length + t.sz := enum_len'.1 t l
end Go.Proofs.YteipiejlljnclaaGreatDoor
end
