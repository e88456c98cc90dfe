/- The maker's source of numbers (exactpplmake): what it reads. Conditions stand in each. -/
import Derived.Test.YteipiejlljnclaaGreatDoorRGa
import Derived.Test.YteipiejlljnclaaGreatDoorRGe
set_option linter.unusedVariables false
set_option linter.unusedSimpArgs false
set_option maxRecDepth 10000
set_option maxHeartbeats 16000000
section
namespace Go.Proofs.YteipiejlljnclaaGreatDoor
open Go Go.AL
attribute [local irreducible] run opK opD callK
@[go_sem] abbrev sp (l : List Int) (a : Nat) : PA := .ptr 3 (.agg [.sl 1 (ints l), .sc (.int .i64 (a : Nat)), .sc (.int .i64 0)]) []
def raw (l : List Int) (a : Nat) : Int × Nat := if a < l.length then (gi l a, a + 1) else (0, a)
def rdN (l : List Int) (a n : Nat) : Nat × Nat := (((raw l a).1 % (n : Int)).toNat, (raw l a).2)
theorem raw_le (l : List Int) (a : Nat) (h : a ≤ l.length) : (raw l a).2 ≤ l.length := by
 unfold raw; split <;> simp only <;> omega
theorem rdN_lt (l : List Int) (a : Nat) {n : Nat} (hn : 0 < n) : (rdN l a n).1 < n := by
 have h1 := Int.emod_nonneg (raw l a).1 (show (n : Int) ≠ 0 by omega)
 have h2 := Int.emod_lt_of_pos (raw l a).1 (show (0 : Int) < n by omega)
 simp only [rdN]; omega
theorem c_Raw (l : List Int) (a : Nat) (hl : l.length < 4611686018427387904) (ha : a ≤ l.length) : CT 61 [sp l a] { val := iv .i64 (raw l a).1, args := [sp l (raw l a).2] } := by
 refine Ctr.intro ⟨Tryz.f61, _, Tryz.call61, Tryz.func61, fold_body (by rfl) (by kernel_rfl), (by simp [Tryz.ntmps61]), (by simp), (by kernel_rfl), ?_⟩
 refine wks ?_
 refine wk0 ?_
 refine vcalm (by kernel_rfl) ?_
 refine condK.dec (fun h => ?_) (fun h => ?_)
 ·have e : raw l a = (0, a) := by unfold raw; rw [if_neg (by omega)]
  refine wk1 @e ?_
  simp [memOut, lget, VC, packOut, packKeys, cellsOf, cellKeys, disjB, inL, AV.isAgg, cellOut]
 ·have e : raw l a = (gi l a, a + 1) := by unfold raw; rw [if_pos (by omega)]
  have e2 : ((a : Int) + 1 - 1).toNat = a := by omega
  refine wk1 @e2 ?_
  refine vcalm (by kernel_rfl) ?_
  refine wk2 @e @e2 ?_
  simp [memOut, lget, VC, packOut, packKeys, cellsOf, cellKeys, disjB, inL, AV.isAgg, cellOut]
theorem tmod_emod (x : Int) {n : Nat} (hn : 0 < n) : (if x.tmod n < 0 then x.tmod n + n else x.tmod n) = (((x % (n : Int)).toNat : Nat) : Int) := by
 have h1 := Int.emod_nonneg x (show (n : Int) ≠ 0 by omega)
 have h2 := Int.emod_lt_of_pos x (show (0 : Int) < n by omega)
 rw [Int.toNat_of_nonneg h1]
 have e := Int.tmod_eq_emod (a := x) (b := (n : Int))
 rw [e]
 split at e
 all_goals (split <;> (try simp only [Int.natAbs_natCast] at *) <;> (try split at *) <;> omega)
theorem c_N (l : List Int) (a n : Nat) (hl : l.length < 4611686018427387904) (ha : a ≤ l.length) (hn : 0 < n) (hn2 : n < 1000000) : CT 24 [sp l a, .data (iv .i64 (n : Nat))] { val := iv .i64 (rdN l a n).1, args := [sp l (rdN l a n).2, .data (iv .i64 (n : Nat))] } := by
 have hr := c_Raw l a hl ha
 have ht := tmod_emod (raw l a).1 hn
 have hlt := rdN_lt l a hn
 have h1 : (rdN l a n).1 = ((raw l a).1 % (n : Int)).toNat := rfl
 have h2 : (rdN l a n).2 = (raw l a).2 := rfl
 rw [← h1] at ht
 rw [h2]
 generalize raw l a = R at *
 obtain ⟨x, b⟩ := R
 simp only at hr ht
 have hc1 : (n : Int) ≠ 0 := by omega
 refine Ctr.intro ⟨Tryz.f24, _, Tryz.call24, Tryz.func24, fold_body (by rfl) (by kernel_rfl), (by simp [Tryz.ntmps24]), (by simp), (by kernel_rfl), ?_⟩
 refine wks ?_
 refine wk0 ?_
 refine callI (hr) ?_
 refine wk0 ?_
 refine condK.dec (fun h => ?_) (fun h => ?_)
 ·rw [if_pos h] at ht
  refine wk1 @ht ?_
  simp [memOut, lget, VC, packOut, packKeys, cellsOf, cellKeys, disjB, inL, AV.isAgg, cellOut]
 ·rw [if_neg h] at ht
  refine wk1 @ht ?_
  simp [memOut, lget, VC, packOut, packKeys, cellsOf, cellKeys, disjB, inL, AV.isAgg, cellOut]
theorem c_Range (l : List Int) (a n : Nat) (lo hi : Int) (hl : l.length < 4611686018427387904) (ha : a ≤ l.length) (hn : hi - lo + 1 = n) (hn0 : 0 < n) (hn2 : n < 1000000) (hlo : -1000000 < lo ∧ lo < 1000000) :
  CT 39 [sp l a, .data (iv .i64 lo), .data (iv .i64 hi)] { val := iv .i64 (lo + (rdN l a n).1), args := [sp l (rdN l a n).2, .data (iv .i64 lo), .data (iv .i64 hi)] } := by
 have hc := c_N l a n hl ha hn0 hn2
 have hlt := rdN_lt l a hn0
 generalize rdN l a n = R at *
 obtain ⟨x, b⟩ := R
 simp only at hc hlt
 refine Ctr.intro ⟨Tryz.f39, _, Tryz.call39, Tryz.func39, fold_body (by rfl) (by kernel_rfl), (by simp [Tryz.ntmps39]), (by simp), (by kernel_rfl), ?_⟩
 refine wks ?_
 refine wk1 @hn ?_
 refine callI (hc) ?_
 refine wk0 ?_
 simp [memOut, lget, VC, packOut, packKeys, cellsOf, cellKeys, disjB, inL, AV.isAgg, cellOut]
def wid (s : Nat) : Nat := 2 + s % 2
theorem c_Width (s : Nat) (hs : s < 1000000) : CT 25 [.data (iv .i64 (s : Nat))] { val := iv .i64 (wid s : Nat), args := [.data (iv .i64 (s : Nat))] } := by
 have e : ((s : Int)).tmod 2 = ((s % 2 : Nat) : Int) := by rw [Int.tmod_eq_emod_of_nonneg (by omega)]; omega
 have e2 : (2 : Int) + ((s % 2 : Nat) : Int) = ((wid s : Nat) : Int) := by unfold wid; omega
 refine Ctr.intro ⟨Tryz.f25, _, Tryz.call25, Tryz.func25, fold_body (by rfl) (by kernel_rfl), (by simp [Tryz.ntmps25]), (by simp), (by kernel_rfl), ?_⟩
 refine wks ?_
 refine wk2 @e @e2 ?_
 simp [VC]
theorem c_New (l : List Int) (hl : l.length < 4611686018427387904) : CT 12 [idat l] { val := .hp ⟨0, 0⟩ 0 0, new := [sp (l.take 1000) 0], args := [idat l] } := by
 refine Ctr.intro ⟨Tryz.f12, _, Tryz.call12, Tryz.func12, fold_body (by rfl) (by kernel_rfl), (by simp [Tryz.ntmps12]), (by simp), (by kernel_rfl), ?_⟩
 refine wks ?_
 refine wk0 ?_
 refine condK.dec (fun h => ?_) (fun h => ?_)
 ·refine wk0 ?_
  simp [memOut, lget, VC, packOut, packKeys, cellsOf, cellKeys, disjB, inL, AV.isAgg, cellOut]
 ·have e : l.take 1000 = l := List.take_of_length_le (by omega)
  rw [e]
  refine wk0 ?_
  simp [memOut, lget, VC, packOut, packKeys, cellsOf, cellKeys, disjB, inL, AV.isAgg, cellOut]
end Go.Proofs.YteipiejlljnclaaGreatDoor
end
section
namespace Go.Proofs.YteipiejlljnclaaGreatDoor
open Go Go.AL
attribute [local irreducible] run opK opD callK
def drs (g : Nat → Tr × Nat) : Nat → Nat → List Tr × Nat
 | 0, a => ([], a)
 | n + 1, a => let r := drs g n a; let t := g r.2; (r.1 ++ [t.1], t.2)
def leafR (l : List Int) (a : Nat) : Tr × Nat := (.lf (-2 + (rdN l a 6).1), (rdN l a 6).2)
noncomputable def dia (l : List Int) : Nat → Nat → Nat → Tr × Nat
 | 0, _, a => leafR l a
 | k + 1, f, a =>
  if (rdN l a 5).1 = 0 then leafR l (rdN l a 5).2 else
  if (rdN l (rdN l a 5).2 4).1 = 0 then dia l k (f + 1) (rdN l (rdN l a 5).2 4).2 else
   (mkbr f (drs (dia l k (f + 1)) (wid f) (rdN l (rdN l a 5).2 4).2).1, (drs (dia l k (f + 1)) (wid f) (rdN l (rdN l a 5).2 4).2).2)
theorem rdN_le (l : List Int) (a n : Nat) (h : a ≤ l.length) : (rdN l a n).2 ≤ l.length := raw_le l a h
theorem drs_len (g : Nat → Tr × Nat) : ∀ n a, (drs g n a).1.length = n
 | 0, _ => rfl
 | n + 1, a => by simp [drs, drs_len g n a]
theorem drs_le {g : Nat → Tr × Nat} {m : Nat} (hg : ∀ a, a ≤ m → (g a).2 ≤ m) : ∀ n a, a ≤ m → (drs g n a).2 ≤ m
 | 0, _, h => h
 | n + 1, a, h => hg _ (drs_le hg n a h)
theorem drs_all {g : Nat → Tr × Nat} {m : Nat} {p : Tr → Prop} (hg : ∀ a, a ≤ m → (g a).2 ≤ m) (hp : ∀ a, a ≤ m → p (g a).1) : ∀ n a, a ≤ m → ∀ t ∈ (drs g n a).1, p t
 | 0, _, _, t, ht => by simp [drs] at ht
 | n + 1, a, h, t, ht => by
  simp only [drs] at ht
  rcases List.mem_append.mp ht with ht | ht
  ·exact drs_all hg hp n a h t ht
  ·rw [List.mem_singleton.mp ht]; exact hp _ (drs_le hg n a h)
theorem szs_app (a b : List Tr) : szs (a ++ b) = szs a + szs b := by
 induction a with
 | nil => simp [szs]
 | cons x a ih => simp only [List.cons_append, szs, ih]; omega
theorem drs_szs {g : Nat → Tr × Nat} {m S : Nat} (hg : ∀ a, a ≤ m → (g a).2 ≤ m) (hp : ∀ a, a ≤ m → (g a).1.sz ≤ S) : ∀ n a, a ≤ m → szs (drs g n a).1 ≤ n * S
 | 0, _, _ => by simp [drs, szs]
 | n + 1, a, h => by
  have h1 := drs_szs hg hp n a h
  have h2 := hp _ (drs_le hg n a h)
  simp only [drs, szs_app, szs, Nat.add_mul]; omega
def bnd : Nat → Nat
 | 0 => 1
 | k + 1 => 1 + 3 * bnd k
theorem wid_bd (s : Nat) : 2 ≤ wid s ∧ wid s ≤ 3 := by unfold wid; omega
theorem leafR_ok (l : List Int) (a : Nat) : Ok wid (leafR l a).1 := by
 have := rdN_lt l a (n := 6) (by decide)
 exact .lf (by omega) (by omega)
theorem mkbr_ok {s : Nat} {ks : List Tr} (hs : s < 64) (hw : ks.length = wid s) (hk : ∀ k ∈ ks, Ok wid k) (ho : ∀ k ∈ ks, siteOf k < 0 ∨ (s : Int) < siteOf k) : Ok wid (mkbr s ks) := by
 have hb := wid_bd s
 unfold mkbr
 split
 ·cases ks with
  | nil => simp at hw; omega
  | cons a ks => exact hk a (by simp)
 ·rename_i h
  exact .br hs hw (by omega) (by omega) h hk ho
theorem mkbr_site {s : Nat} {ks : List Tr} (h0 : ks ≠ []) (ho : ∀ k ∈ ks, siteOf k < 0 ∨ (s : Int) < siteOf k) : siteOf (mkbr s ks) < 0 ∨ (s : Int) ≤ siteOf (mkbr s ks) := by
 unfold mkbr
 split
 ·cases ks with
  | nil => exact absurd rfl h0
  | cons a ks => have := ho a (by simp); simp only [List.headD_cons]; omega
 ·right; simp [siteOf]
theorem bnd_le : ∀ k, 1 ≤ bnd k
 | 0 => Nat.le_refl _
 | k + 1 => by simp only [bnd]; omega
theorem dia_ok (l : List Int) : ∀ (k f a : Nat), f + k ≤ 64 → a ≤ l.length → Ok wid (dia l k f a).1 ∧ (siteOf (dia l k f a).1 < 0 ∨ (f : Int) ≤ siteOf (dia l k f a).1) ∧ (dia l k f a).2 ≤ l.length ∧ (dia l k f a).1.sz ≤ bnd k := by
 intro k
 induction k with
 | zero => intro f a h ha; exact ⟨leafR_ok l a, .inl (by simp [dia, leafR, siteOf]), rdN_le l a 6 ha, by simp [dia, leafR, Tr.sz, bnd]⟩
 | succ k ih =>
  intro f a h ha
  have h1 := rdN_le l a 5 ha
  have h2 := rdN_le l (rdN l a 5).2 4 h1
  have hb := bnd_le k
  rw [dia]
  split
  ·exact ⟨leafR_ok l _, .inl (by simp [leafR, siteOf]), rdN_le l _ 6 h1, by simp [leafR, Tr.sz, bnd]⟩
  ·split
   ·have := ih (f + 1) _ (by omega) h2
    refine ⟨this.1, ?_, this.2.2.1, by have := this.2.2.2; simp only [bnd]; omega⟩
    have := this.2.1; omega
   ·generalize (rdN l (rdN l a 5).2 4).2 = b at *
    have hg : ∀ a, a ≤ l.length → (dia l k (f + 1) a).2 ≤ l.length := fun a ha => (ih (f + 1) a (by omega) ha).2.2.1
    have ho := drs_all hg (p := fun t => Ok wid t ∧ (siteOf t < 0 ∨ (f : Int) < siteOf t)) (fun a ha => ⟨(ih (f + 1) a (by omega) ha).1, by have := (ih (f + 1) a (by omega) ha).2.1; omega⟩) (wid f) b h2
    have hs := drs_szs hg (fun a ha => (ih (f + 1) a (by omega) ha).2.2.2) (wid f) b h2
    have hl := drs_len (dia l k (f + 1)) (wid f) b
    have hle := drs_le hg (wid f) b h2
    have hw := wid_bd f
    generalize drs (dia l k (f + 1)) (wid f) b = R at *
    have hne : R.1 ≠ [] := fun e => by rw [e] at hl; simp at hl; omega
    refine ⟨mkbr_ok (by omega) hl (fun t ht => (ho t ht).1) (fun t ht => (ho t ht).2), mkbr_site hne fun t ht => (ho t ht).2, hle, ?_⟩
    have := mkbr_sz f R.1 hne
    have : wid f * bnd k ≤ 3 * bnd k := Nat.mul_le_mul_right _ hw.2
    simp only [bnd]; omega
end Go.Proofs.YteipiejlljnclaaGreatDoor
end
