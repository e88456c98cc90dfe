/- The maker's weights (exactpplmake): chances and fractions; what weights are. Conditions stand in each. -/
import Derived.Test.YteipiejlljnclaaGreatDoorRGf
import Derived.Test.YteipiejlljnclaaGreatDoorRDa
set_option linter.unusedVariables false
set_option linter.unusedSimpArgs false
set_option maxRecDepth 10000
set_option maxHeartbeats 8000000
section
namespace Go.Proofs.YteipiejlljnclaaGreatDoor
open Go Go.AL
attribute [local irreducible] run opK opD callK
def chance (l : List Int) (a : Nat) : Rat × Nat := (mkRat (rdN l (rdN l a 5).2 ((rdN l a 5).1 + 2)).1 ((rdN l a 5).1 + 1), (rdN l (rdN l a 5).2 ((rdN l a 5).1 + 2)).2)
theorem chance_le (l : List Int) (a : Nat) (h : a ≤ l.length) : (chance l a).2 ≤ l.length := rdN_le l _ ((rdN l a 5).1 + 2) (rdN_le l a 5 h)
theorem chance_spec (l : List Int) (a : Nat) : ∃ x d : Nat, (chance l a).1 = mkRat x d ∧ 0 < d ∧ d ≤ 5 ∧ x ≤ d := by
 have h1 := rdN_lt l a (n := 5) (by omega)
 have h2 := rdN_lt l (rdN l a 5).2 (n := (rdN l a 5).1 + 2) (by omega)
 exact ⟨(rdN l (rdN l a 5).2 ((rdN l a 5).1 + 2)).1, (rdN l a 5).1 + 1, rfl, by omega, by omega, by omega⟩
theorem c_Chance (l : List Int) (a : Nat) (hl : l.length < 4611686018427387904) (ha : a ≤ l.length) : CT 86 [sp l a] { val := qr (chance l a).1, args := [sp l (chance l a).2] } := by
 have h1 := rdN_lt l a (n := 5) (by omega)
 have h2 := rdN_le l a 5 ha
 have c1 := c_Range l a 5 1 5 hl ha (by omega) (by omega) (by omega) (by omega)
 unfold chance
 generalize rdN l a 5 = R at *
 obtain ⟨d, b⟩ := R
 simp only at h1 h2 c1
 have h3 := rdN_lt l b (n := d + 2) (by omega)
 have c2 := c_N l b (d + 2) hl h2 (by omega) (by omega)
 simp only
 generalize rdN l b (d + 2) = S at *
 obtain ⟨x, b2⟩ := S
 simp only at h3 c2
 have c3 := c_New2 (x : Nat) (d + 1) (by omega) (by omega)
 have e1 : (1 : Int) + (d : Int) = ((d + 1 : Nat) : Int) := by omega
 have e2 : ((d + 1 : Nat) : Int) + 1 = ((d + 2 : Nat) : Int) := by omega
 rw [e1] at c1
 refine Ctr.intro ⟨Tryz.f86, _, Tryz.call86, Tryz.func86, fold_body (by rfl) (by kernel_rfl), (by simp [Tryz.ntmps86]), (by simp), (by kernel_rfl), ?_⟩
 refine wks ?_
 refine wk0 ?_
 refine callI (c1) ?_
 refine wk1 @e2 ?_
 refine callI (c2) ?_
 refine wk0 ?_
 refine callI (c3) ?_
 refine wk1 @qr.eq_1 ?_
 refine ⟨Or.inl ?_, ?_⟩ <;> simp [memOut, lget, VC, packOut, packKeys, cellsOf, cellKeys, disjB, inL, AV.isAgg, cellOut, cellsOut, cleanL, cleanCell, hsOut]
theorem c_fraction (n : Int) (d : Nat) (hn : -1000 < n ∧ n < 1000) (hd : 0 < d ∧ d < 1000) : CT 87 [.data (iv .i64 n), .data (iv .i64 (d : Nat))] { val := qr (mkRat n d), args := [.data (iv .i64 n), .data (iv .i64 (d : Nat))] } := by
 have c3 := c_New2 n d (by omega) (by omega)
 refine Ctr.intro ⟨Tryz.f87, _, Tryz.call87, Tryz.func87, fold_body (by rfl) (by kernel_rfl), (by simp [Tryz.ntmps87]), (by simp), (by kernel_rfl), ?_⟩
 refine wks ?_
 refine wk0 ?_
 refine callI (c3) ?_
 refine wk1 @qr.eq_1 ?_
 refine ⟨Or.inl ?_, ?_⟩ <;> simp [memOut, lget, VC, packOut, packKeys, cellsOf, cellKeys, disjB, inL, AV.isAgg, cellOut, cellsOut, cleanL, cleanCell, hsOut]
end Go.Proofs.YteipiejlljnclaaGreatDoor
end
section
namespace Go.Proofs.YteipiejlljnclaaGreatDoor
open Go Go.AL
theorem ins_all {P : Mo → Prop} {t : Tm} (ht : P t.1) : ∀ {p : List Tm}, (∀ s ∈ p, P s.1) → ∀ s ∈ ins p t, P s.1
 | [], _, s, hs => by
  rw [ins] at hs
  split at hs
  ·cases hs
  ·rw [List.mem_singleton.1 hs]; exact ht
 | u :: l, h, s, hs => by
  have hu := h u (.head _)
  have ih := ins_all ht (p := l) fun s hs => h s (.tail _ hs)
  rw [ins] at hs
  split at hs
  ·rcases List.mem_cons.1 hs with rfl | hs
   ·exact hu
   ·exact ih s hs
  ·split at hs
   ·split at hs
    ·exact h s (.tail _ hs)
    ·rcases List.mem_cons.1 hs with rfl | hs
     ·exact ht
     ·exact h s (.tail _ hs)
   ·split at hs
    ·exact h s hs
    ·rcases List.mem_cons.1 hs with rfl | hs
     ·exact ht
     ·exact h s hs
theorem foldl_all {P : Mo → Prop} : ∀ {l p : List Tm}, (∀ s ∈ p, P s.1) → (∀ s ∈ l, P s.1) → ∀ s ∈ l.foldl ins p, P s.1
 | [], _, h, _ => h
 | t :: l, _, h, h' => foldl_all (l := l) (ins_all (h' t (.head _)) h) fun s hs => h' s (.tail _ hs)
theorem nf_all {P : Mo → Prop} {l : List Tm} (h : ∀ s ∈ l, P s.1) : ∀ s ∈ nf l, P s.1 := foldl_all (fun _ h => by cases h) h
theorem padd_all {P : Mo → Prop} {p q : List Tm} (hp : ∀ s ∈ p, P s.1) (hq : ∀ s ∈ q, P s.1) : ∀ s ∈ padd p q, P s.1 := nf_all fun s hs => (List.mem_append.1 hs).elim (hp s) (hq s)
theorem prods_all {P Q R : Mo → Prop} {p q : List Tm} (hr : ∀ a b, P a → Q b → R (a.add b)) (hp : ∀ s ∈ p, P s.1) (hq : ∀ s ∈ q, Q s.1) : ∀ s ∈ prods p q, R s.1 := by
 intro s hs
 obtain ⟨a, ha, hs⟩ := List.mem_flatMap.1 hs
 obtain ⟨b, hb, rfl⟩ := List.mem_map.1 hs
 exact hr _ _ (hp a ha) (hq b hb)
theorem pmul_all {P Q R : Mo → Prop} {p q : List Tm} (hr : ∀ a b, P a → Q b → R (a.add b)) (hp : ∀ s ∈ p, P s.1) (hq : ∀ s ∈ q, Q s.1) : ∀ s ∈ pmul p q, R s.1 := nf_all (prods_all hr hp hq)
theorem sc_scale {D k : Nat} (hk : 0 < k) {c : Rat} (h : c.den ∣ D) : sc (D * k) c = sc D c * k := by
 unfold sc
 rw [Nat.mul_comm D k, Nat.mul_div_assoc _ h, Int.natCast_mul]
 grind
theorem PB.scale {D M k : Nat} (hk : 0 < k) {p : List Tm} (h : PB D M p) : PB (D * k) (M * k) p := by
 have key : ∀ {p : List Tm}, (∀ t ∈ p, t.2.den ∣ D) → nrm (D * k) p = nrm D p * k := by
  intro p
  induction p with
  | nil => intro _; simp [nrm]
  | cons t p ih =>
   intro hp
   rw [nrm, nrm, ih fun t ht => hp t (.tail _ ht), sc_scale hk (hp t (.head _)), Int.natAbs_mul, Int.natAbs_natCast, Nat.add_mul]
 exact ⟨Nat.mul_pos h.pos hk, fun t ht => Nat.dvd_mul_right_of_dvd (h.den t ht) k, by rw [key h.den]; exact Nat.mul_le_mul_right _ h.le⟩
theorem nodup_bound : ∀ (n : Nat) (l : List Nat), l.Nodup → (∀ x ∈ l, x < n) → l.length ≤ n
 | 0, l, _, h => by
  cases l with
  | nil => exact Nat.le_refl _
  | cons x l => exact absurd (h x (.head _)) (Nat.not_lt_zero _)
 | n + 1, l, hd, h => by
  by_cases hm : n ∈ l
  ·have h1 := nodup_bound n (l.erase n) (hd.erase n) fun x hx => by
    obtain ⟨h2, h3⟩ := (List.Nodup.mem_erase_iff hd).1 hx
    have := h x h3; omega
   rw [List.length_erase_of_mem hm] at h1
   omega
  ·have h1 := nodup_bound n l hd fun x hx => by
    have := h x hx
    have : x ≠ n := fun e => hm (e ▸ hx)
    omega
   omega
def Ex (U : Nat) (m : Mo) : Prop := ∀ i, 0 ≤ m.g i ∧ m.g i ≤ U ∧ (2 ≤ i → m.g i = 0)
theorem Ex.mono {U V : Nat} (h : U ≤ V) {m : Mo} (hm : Ex U m) : Ex V m := fun i => ⟨(hm i).1, by have := (hm i).2.1; omega, (hm i).2.2⟩
theorem Ex.add {U V : Nat} {a b : Mo} (ha : Ex U a) (hb : Ex V b) : Ex (U + V) (a.add b) := fun i => by
 by_cases hi : i < 8
 ·rw [Mo.g_add _ _ _ hi]
  have h1 := ha i
  have h2 := hb i
  exact ⟨by omega, by omega, fun h => by rw [h1.2.2 h, h2.2.2 h]; rfl⟩
 ·have e : (a.add b).g i = 0 := by
   unfold Mo.g
   rw [List.getD_eq_getElem?_getD, List.getElem?_eq_none (by rw [(a.add b).h]; omega)]; rfl
  rw [e]
  exact ⟨by omega, by omega, fun _ => rfl⟩
theorem Ex.zero (U : Nat) : Ex U Mo.zero := fun i => by rw [Mo.g_zero]; exact ⟨by omega, by omega, fun _ => rfl⟩
theorem Ex.ok {U : Nat} (hU : U ≤ 100000) {m : Mo} (h : Ex U m) : m.ok := fun x hx => by
 obtain ⟨i, hi⟩ := List.mem_iff_getElem?.1 hx
 have h1 := h i
 have e : m.g i = x := by unfold Mo.g; rw [List.getD_eq_getElem?_getD, hi]; rfl
 rw [e] at h1
 omega
theorem Ex.len {U : Nat} {p : List Tm} (hc : Cn p) (h : ∀ t ∈ p, Ex U t.1) : p.length ≤ (U + 1) * (U + 1) := by
 have hl := nodup_bound ((U + 1) * (U + 1)) (p.map fun t => (t.1.g 0).toNat * (U + 1) + (t.1.g 1).toNat) ?_ ?_
 ·rwa [List.length_map] at hl
 ·refine List.pairwise_map.2 (List.Pairwise.imp_of_mem (fun {a b} ha hb hab he => ?_) hc.1)
  have h0 := h a ha 0
  have h1 := h a ha 1
  have h2 := h b hb 0
  have h3 := h b hb 1
  refine mgt_ne hab (Mo.ext_g fun i hi => ?_)
  have e1 : (a.1.g 0).toNat = (b.1.g 0).toNat ∧ (a.1.g 1).toNat = (b.1.g 1).toNat := by
   have p1 : (a.1.g 1).toNat < U + 1 := by omega
   have p2 : (b.1.g 1).toNat < U + 1 := by omega
   have d1 : ((a.1.g 0).toNat * (U + 1) + (a.1.g 1).toNat) / (U + 1) = (a.1.g 0).toNat := by
    rw [Nat.mul_comm, Nat.mul_add_div (by omega), Nat.div_eq_of_lt p1]; rfl
   have d2 : ((b.1.g 0).toNat * (U + 1) + (b.1.g 1).toNat) / (U + 1) = (b.1.g 0).toNat := by
    rw [Nat.mul_comm, Nat.mul_add_div (by omega), Nat.div_eq_of_lt p2]; rfl
   have he : (a.1.g 0).toNat * (U + 1) + (a.1.g 1).toNat = (b.1.g 0).toNat * (U + 1) + (b.1.g 1).toNat := he
   rw [he, d2] at d1
   refine ⟨d1.symm, ?_⟩
   rw [d1] at he
   omega
  match i, hi with
  | 0, _ => omega
  | 1, _ => omega
  | i + 2, _ => rw [(h a ha (i + 2)).2.2 (by omega), (h b hb (i + 2)).2.2 (by omega)]
 ·intro x hx
  obtain ⟨t, ht, rfl⟩ := List.mem_map.1 hx
  have h0 := h t ht 0
  have h1 := h t ht 1
  have : (t.1.g 0).toNat ≤ U := by omega
  have := Nat.mul_le_mul_right (U + 1) this
  have : (U + 1) * (U + 1) = U * (U + 1) + (U + 1) := by rw [Nat.add_mul, Nat.one_mul]
  omega
theorem ql_of {n k : Nat} (h : n < pw k) (hk : k ≤ 4294967296) : Ql (limbs n) := ⟨lim_limbs _, Nat.le_trans (limbs_len_le h) hk⟩
structure PQ (U : Nat) (p : List Tm) : Prop where
 cn : Cn p
 pb : PB (120 ^ U) (480 ^ U) p
 ex : ∀ t ∈ p, Ex U t.1
structure PW (M : Nat) (p : List Tm) : Prop where
 cn : Cn p
 pb : PB 120 M p
 ex : ∀ t ∈ p, Ex 1 t.1
theorem PQ.nil (U : Nat) : PQ U [] := ⟨Cn.nil, PB.nil (Nat.pow_pos (by omega)), fun _ h => by cases h⟩
theorem PQ.mono {U V : Nat} (h : U ≤ V) {p : List Tm} (hp : PQ U p) : PQ V p := by
 obtain ⟨k, rfl⟩ := Nat.exists_eq_add_of_le h
 refine ⟨hp.cn, ?_, fun t ht => (hp.ex t ht).mono h⟩
 have := (hp.pb.scale (k := 120 ^ k) (Nat.pow_pos (by omega))).mono (M' := 480 ^ U * 480 ^ k) (Nat.mul_le_mul_left _ (Nat.pow_le_pow_left (by omega) k))
 rwa [← Nat.pow_add, ← Nat.pow_add] at this
theorem PQ.padd {U : Nat} {p q : List Tm} (hp : PQ U p) (hq : PQ U q) : PQ (U + 1) (padd p q) := by
 refine ⟨padd_Cn _ _, ?_, padd_all (fun t ht => (hp.ex t ht).mono (by omega)) (fun t ht => (hq.ex t ht).mono (by omega))⟩
 have := ((hp.pb.padd hq.pb).scale (k := 120) (by omega)).mono (M' := 480 ^ U * 480) (by omega)
 rwa [← Nat.pow_succ, ← Nat.pow_succ] at this
theorem PQ.mulw {U M : Nat} {p w : List Tm} (hp : PQ U p) (hw : PW M w) : PB (120 ^ U * 120) (480 ^ U * M) (pmul p w) ∧ ∀ t ∈ pmul p w, Ex (U + 1) t.1 :=
 ⟨hp.pb.pmul hw.pb, pmul_all (fun a b ha hb => Ex.add ha hb) hp.ex hw.ex⟩
theorem PQ.step {U M : Nat} {p q w : List Tm} (hM : M ≤ 360) (hp : PQ U p) (hq : PQ U q) (hw : PW M w) : PQ (U + 1) (Go.Proofs.YteipiejlljnclaaGreatDoor.padd p (pmul q w)) := by
 obtain ⟨h1, h2⟩ := hq.mulw hw
 refine ⟨padd_Cn _ _, ?_, padd_all (fun t ht => (hp.ex t ht).mono (by omega)) h2⟩
 have hk := Nat.mul_le_mul_left (480 ^ U) hM
 have := ((hp.pb.scale (k := 120) (by omega)).padd h1).mono (M' := 480 ^ U * 480) (by omega)
 rwa [← Nat.pow_succ, ← Nat.pow_succ] at this
theorem pow_lt_pw {U a b : Nat} (ha : a ≤ 480) (hb : b < 18446744073709551616) : a ^ U * b < pw (U + 2) := by
 have hp2 : pw 2 = 18446744073709551616 := by decide
 have e : ∀ U, a ^ U ≤ pw U := by
  intro U
  induction U with
  | zero => exact Nat.le_refl _
  | succ U ih =>
   rw [Nat.pow_succ]
   have e1 : pw (U + 1) = pw U * 4294967296 := by simp [pw, Nat.pow_succ]
   rw [e1]
   exact Nat.mul_le_mul ih (by omega)
 have e1 : pw (U + 2) = pw U * pw 2 := by unfold pw; rw [← Nat.pow_add]
 rw [e1, hp2]
 calc a ^ U * b ≤ pw U * b := Nat.mul_le_mul_right _ (e U)
  _ < pw U * 18446744073709551616 := Nat.mul_lt_mul_of_pos_left hb (by unfold pw; exact Nat.pow_pos (by decide))
theorem fit_of {U a b : Nat} (hU : U ≤ 100000) (ha : a < 18446744073709551616) (hb : b < 18446744073709551616) : Fit (120 ^ U * a) (480 ^ U * b) :=
 ⟨ql_of (pow_lt_pw (by omega) ha) (by omega), ql_of (pow_lt_pw (by omega) hb) (by omega)⟩
theorem PQ.fit {U : Nat} (hU : U ≤ 100000) : Fit (120 ^ U) (480 ^ U) := by
 have := fit_of (a := 1) (b := 1) hU (by omega) (by omega)
 rwa [Nat.mul_one, Nat.mul_one] at this
theorem PQ.qz {U : Nat} (hU : U ≤ 100000) {p : List Tm} (hp : PQ U p) : ∀ t ∈ p, Qz t.2 := fun t ht => hp.pb.qz (PQ.fit hU) ht
theorem PW.fit {D M : Nat} (hD : D < 18446744073709551616) (hM : M < 18446744073709551616) : Fit D M := by
 have hp2 : pw 2 = 18446744073709551616 := by decide
 exact ⟨ql_of (k := 2) (by omega) (by omega), ql_of (k := 2) (by omega) (by omega)⟩
theorem PQ.ok {U : Nat} (hU : U ≤ 100000) {p : List Tm} (hp : PQ U p) : ∀ t ∈ p, t.1.ok := fun t ht => (hp.ex t ht).ok hU
theorem PQ.len {U : Nat} {p : List Tm} (hp : PQ U p) : p.length ≤ (U + 1) * (U + 1) := Ex.len hp.cn hp.ex
theorem PW.len {M : Nat} {p : List Tm} (hp : PW M p) : p.length ≤ 4 := Ex.len hp.cn hp.ex
theorem PW.mono {M N : Nat} (h : M ≤ N) {p : List Tm} (hp : PW M p) : PW N p := ⟨hp.cn, hp.pb.mono h, hp.ex⟩
theorem PQ.one : PQ 0 pone := ⟨pone_Cn, ⟨by decide, fun t ht => by rw [List.mem_singleton.1 ht]; decide, by decide⟩, fun t ht => by rw [List.mem_singleton.1 ht]; exact Ex.zero 0⟩
theorem PW.one : PW 120 pone := ⟨pone_Cn, ⟨by decide, fun t ht => by rw [List.mem_singleton.1 ht]; decide, by decide⟩, fun t ht => by rw [List.mem_singleton.1 ht]; exact Ex.zero 1⟩
def Xv (v : Nat) : Mo := Mo.zero.set v 1
theorem Xv_ex {v : Nat} (hv : v < 2) : Ex 1 (Xv v) := fun i => by
 unfold Xv
 rw [Mo.g_set _ _ _ _ (by omega), Mo.g_zero]
 split
 ·exact ⟨by omega, by omega, fun h => by omega⟩
 ·exact ⟨by omega, by omega, fun _ => rfl⟩
theorem pconst_PW {r : Rat} {M : Nat} (h : r.den ∣ 120) (hM : (sc 120 r).natAbs ≤ M) : PW M (pconst r) := by
 refine ⟨pconst_Cn r, ?_, fun t ht => ?_⟩
 ·unfold pconst
  split
  ·exact PB.nil (by omega)
  ·exact (PB.one (by omega) h).mono hM
 ·unfold pconst at ht
  split at ht
  ·cases ht
  ·rw [List.mem_singleton.1 ht]; exact Ex.zero 1
theorem sc_mkRat {x : Int} {d k : Nat} (hd : 0 < d) (hk : 0 < k) : (mkRat x d).den ∣ d * k ∧ sc (d * k) (mkRat x d) = x * k := by
 have h := mk_den x d hd
 exact ⟨Nat.dvd_mul_right_of_dvd h k, by rw [sc_scale hk h, sc_mk x hd]⟩
theorem frac_le {x d n : Nat} (hd : 0 < d) (hd5 : d ≤ 5) (hx : x ≤ d) (hn : n = 1 ∨ n = 2) : (mkRat x d * mkRat 1 n).den ∣ 120 ∧ (sc 120 (mkRat x d * mkRat 1 n)).natAbs ≤ 120 := by
 have e : mkRat x d * mkRat 1 n = mkRat x (d * n) := by rw [Rat.mkRat_mul_mkRat, Int.mul_one]
 rw [e]
 have hdn : ∃ k, 0 < k ∧ 120 = d * n * k := by
  rcases hn with rfl | rfl
  ·match d, hd, hd5 with
   | 1, _, _ => exact ⟨120, by omega, by omega⟩
   | 2, _, _ => exact ⟨60, by omega, by omega⟩
   | 3, _, _ => exact ⟨40, by omega, by omega⟩
   | 4, _, _ => exact ⟨30, by omega, by omega⟩
   | 5, _, _ => exact ⟨24, by omega, by omega⟩
  ·match d, hd, hd5 with
   | 1, _, _ => exact ⟨60, by omega, by omega⟩
   | 2, _, _ => exact ⟨30, by omega, by omega⟩
   | 3, _, _ => exact ⟨20, by omega, by omega⟩
   | 4, _, _ => exact ⟨15, by omega, by omega⟩
   | 5, _, _ => exact ⟨12, by omega, by omega⟩
 obtain ⟨k, hk, e2⟩ := hdn
 have hdn0 : 0 < d * n := Nat.mul_pos hd (by omega)
 obtain ⟨h1, h2⟩ := sc_mkRat (x := x) (d := d * n) (k := k) hdn0 hk
 rw [e2]
 refine ⟨h1, ?_⟩
 rw [h2, Int.natAbs_mul, Int.natAbs_natCast, Int.natAbs_natCast]
 refine Nat.mul_le_mul_right _ ?_
 calc x ≤ d * 1 := by omega
  _ ≤ d * n := Nat.mul_le_mul_left _ (by omega)
def wgt (l : List Int) (a n params : Nat) : List Tm × Nat :=
 if params = 0 then (pconst ((chance l a).1 * mkRat 1 (n - 1)), (chance l a).2)
 else if (rdN l (chance l a).2 3).1 = 0 then ([(Xv (rdN l (rdN l (chance l a).2 3).2 params).1, mkRat 1 (n - 1))], (rdN l (rdN l (chance l a).2 3).2 params).2)
 else (pconst ((chance l a).1 * mkRat 1 (n - 1)), (rdN l (chance l a).2 3).2)
theorem wgt_le (l : List Int) (a n params : Nat) (h : a ≤ l.length) : (wgt l a n params).2 ≤ l.length := by
 have h1 := chance_le l a h
 unfold wgt
 split
 ·exact h1
 ·split
  ·exact rdN_le l _ params (rdN_le l _ 3 h1)
  ·exact rdN_le l _ 3 h1
theorem wgt_PW (l : List Int) (a n params : Nat) (hn : n = 2 ∨ n = 3) (hp : params ≤ 2) : PW 120 (wgt l a n params).1 := by
 obtain ⟨x, d, e, h1, h2, h3⟩ := chance_spec l a
 obtain ⟨h4, h5⟩ := frac_le (n := n - 1) h1 h2 h3 (by omega)
 rw [← e] at h4 h5
 unfold wgt
 split
 ·exact pconst_PW h4 h5
 ·rename_i hp0
  split
  ·have hv := rdN_lt l (rdN l (chance l a).2 3).2 (n := params) (by omega)
   have hden : (mkRat 1 (n - 1)).den ∣ 120 ∧ (sc 120 (mkRat 1 (n - 1))).natAbs ≤ 120 ∧ mkRat 1 (n - 1) ≠ 0 := by
    rcases hn with rfl | rfl <;> decide
   refine ⟨⟨List.pairwise_singleton _ _, fun t ht => by rw [List.mem_singleton.1 ht]; exact hden.2.2⟩, (PB.one (by omega) hden.1).mono hden.2.1, fun t ht => ?_⟩
   rw [List.mem_singleton.1 ht]
   exact Xv_ex (by omega)
  ·exact pconst_PW h4 h5
def chs (l : List Int) (a n params : Nat) : Nat → List (List Tm) × List Tm × Nat
 | 0 => ([], pone, a)
 | i + 1 => ((chs l a n params i).1 ++ [(wgt l (chs l a n params i).2.2 n params).1], padd (chs l a n params i).2.1 (pneg (wgt l (chs l a n params i).2.2 n params).1), (wgt l (chs l a n params i).2.2 n params).2)
theorem neg_PB {p : List Tm} {M : Nat} (hp : PW M p) : PB 120 M (pneg p) := by
 have h1 : PB 1 1 (pconst (-1)) := ⟨by decide, fun t ht => by
  unfold pconst at ht; rw [if_neg (by decide)] at ht; rw [List.mem_singleton.1 ht]; decide, by decide⟩
 have := hp.pb.pmul h1
 rwa [Nat.mul_one, Nat.mul_one] at this
theorem neg_ex {p : List Tm} {M : Nat} (hp : PW M p) : ∀ t ∈ pneg p, Ex 1 t.1 := by
 refine pmul_all (Q := Ex 0) (fun a b ha hb => Ex.add ha hb) hp.ex fun s hs => ?_
 unfold pconst at hs
 rw [if_neg (by decide)] at hs
 rw [List.mem_singleton.1 hs]; exact Ex.zero 0
theorem chs_spec (l : List Int) (a n params : Nat) (ha : a ≤ l.length) (hn : n = 2 ∨ n = 3) (hp : params ≤ 2) : ∀ i, (chs l a n params i).2.2 ≤ l.length ∧ (chs l a n params i).1.length = i ∧ (∀ w ∈ (chs l a n params i).1, PW 120 w) ∧ PW (120 * (i + 1)) (chs l a n params i).2.1
 | 0 => ⟨ha, rfl, (fun _ h => by cases h), PW.one⟩
 | i + 1 => by
  obtain ⟨h1, h2, h3, h4⟩ := chs_spec l a n params ha hn hp i
  have hw := wgt_PW l (chs l a n params i).2.2 n params hn hp
  refine ⟨wgt_le _ _ _ _ h1, by simp [chs, h2], fun w hwm => ?_, padd_Cn _ _, ?_, padd_all h4.ex (neg_ex hw)⟩
  ·rcases List.mem_append.1 hwm with hm | hm
   ·exact h3 w hm
   ·rw [List.mem_singleton.1 hm]; exact hw
  ·have := h4.pb.padd (neg_PB hw)
   exact this.mono (by omega)
def wch (l : List Int) (a n params : Nat) : List (List Tm) := (chs l a n params (n - 1)).1 ++ [(chs l a n params (n - 1)).2.1]
def Ls (F : Mo → Rat) : List (List Tm) → Rat
 | [] => 0
 | w :: ws => L w F + Ls F ws
theorem Ls_append (F : Mo → Rat) : ∀ (a b : List (List Tm)), Ls F (a ++ b) = Ls F a + Ls F b
 | [], b => by rw [List.nil_append, Ls, Rat.zero_add]
 | w :: a, b => by rw [List.cons_append, Ls, Ls, Ls_append F a b, Rat.add_assoc]
theorem pneg_L (p : List Tm) (F : Mo → Rat) : L (pneg p) F = - L p F := by
 rw [pneg, pmul_L]
 have : ∀ p : List Tm, (L p fun a => L (pconst (-1)) fun b => F (a.add b)) = - L p F := by
  intro p
  induction p with
  | nil => rfl
  | cons t p ih =>
   rw [L_cons, L_cons, ih, pconst_L, Mo.add_zero]
   grind
 exact this p
theorem chs_L (l : List Int) (a n params : Nat) (F : Mo → Rat) : ∀ i, Ls F (chs l a n params i).1 + L (chs l a n params i).2.1 F = L pone F
 | 0 => by
  show (0 : Rat) + _ = _
  rw [Rat.zero_add]; rfl
 | i + 1 => by
  have ih := chs_L l a n params F i
  simp only [chs]
  rw [Ls_append, padd_L, pneg_L, Ls, Ls]
  grind
theorem wch_L (l : List Int) (a n params : Nat) (F : Mo → Rat) : Ls F (wch l a n params) = L pone F := by
 rw [wch, Ls_append, Ls, Ls, Rat.add_zero, chs_L]
theorem wch_len (l : List Int) (a n params : Nat) (ha : a ≤ l.length) (hn : n = 2 ∨ n = 3) (hp : params ≤ 2) : (wch l a n params).length = n := by
 rw [wch, List.length_append, (chs_spec l a n params ha hn hp _).2.1]
 simp only [List.length_cons, List.length_nil]
 omega
theorem wch_PW (l : List Int) (a n params : Nat) (ha : a ≤ l.length) (hn : n = 2 ∨ n = 3) (hp : params ≤ 2) : ∀ w ∈ wch l a n params, PW 360 w := by
 obtain ⟨h1, h2, h3, h4⟩ := chs_spec l a n params ha hn hp (n - 1)
 intro w hw
 rcases List.mem_append.1 hw with hm | hm
 ·exact (h3 w hm).mono (by omega)
 ·rw [List.mem_singleton.1 hm]; exact h4.mono (by omega)
def dst (l : List Int) (a params : Nat) : Nat → List (Int × List (List Tm)) × Nat
 | 0 => ([], a)
 | i + 1 => ((dst l a params i).1 ++ [(-1 + ((rdN l (dst l a params i).2 3).1 : Int), wch l (rdN l (dst l a params i).2 3).2 (wid i) params)], (chs l (rdN l (dst l a params i).2 3).2 (wid i) params (wid i - 1)).2.2)
theorem wid_two (s : Nat) : wid s = 2 ∨ wid s = 3 := by unfold wid; omega
theorem dst_le (l : List Int) (a params : Nat) (ha : a ≤ l.length) (hp : params ≤ 2) : ∀ i, (dst l a params i).2 ≤ l.length
 | 0 => ha
 | i + 1 => (chs_spec l _ (wid i) params (rdN_le l _ 3 (dst_le l a params ha hp i)) (wid_two i) hp _).1
structure WOK (ws : List (List (List Tm))) : Prop where
 len : ∀ s, s < ws.length → (ws.getD s []).length = wid s
 pw : ∀ s, ∀ w ∈ ws.getD s [], PW 360 w
 one : ∀ s, s < ws.length → ∀ F, Ls F (ws.getD s []) = L pone F
theorem dst_len (l : List Int) (a params : Nat) : ∀ i, (dst l a params i).1.length = i
 | 0 => rfl
 | i + 1 => by simp [dst, dst_len l a params i]
theorem dst_ok (l : List Int) (a params : Nat) (ha : a ≤ l.length) (hp : params ≤ 2) : ∀ i, WOK ((dst l a params i).1.map (·.2))
 | 0 => ⟨fun s hs => absurd hs (Nat.not_lt_zero _), (fun s w hw => by cases hw), fun s hs => absurd hs (Nat.not_lt_zero _)⟩
 | i + 1 => by
  have ih := dst_ok l a params ha hp i
  have hl : ((dst l a params i).1.map (·.2)).length = i := by rw [List.length_map, dst_len]
  have hb := rdN_le l _ 3 (dst_le l a params ha hp i)
  have e : ∀ s, ((dst l a params (i + 1)).1.map (·.2)).getD s [] = if s < i then ((dst l a params i).1.map (·.2)).getD s [] else if s = i then wch l (rdN l (dst l a params i).2 3).2 (wid i) params else [] := by
   intro s
   simp only [dst, List.map_append, List.map_cons, List.map_nil]
   rw [List.getD_eq_getElem?_getD, List.getD_eq_getElem?_getD]
   split
   ·rw [List.getElem?_append_left (by omega)]
   ·rw [List.getElem?_append_right (by omega), hl]
    split
    ·subst s; rw [Nat.sub_self]; rfl
    ·rw [List.getElem?_eq_none (by simp only [List.length_cons, List.length_nil]; omega)]; rfl
  have hl2 : ((dst l a params (i + 1)).1.map (·.2)).length = i + 1 := by rw [List.length_map, dst_len]
  refine ⟨fun s hs => ?_, fun s w hw => ?_, fun s hs F => ?_⟩
  ·rw [e]
   split
   ·exact ih.len s (by omega)
   ·have : s = i := by omega
    subst this
    rw [if_pos rfl]
    exact wch_len _ _ _ _ hb (wid_two _) hp
  ·rw [e] at hw
   split at hw
   ·exact ih.pw s w hw
   ·split at hw
    ·exact wch_PW _ _ _ _ hb (wid_two _) hp w hw
    ·cases hw
  ·rw [e]
   split
   ·exact ih.one s (by omega) F
   ·have : s = i := by omega
    subst this
    rw [if_pos rfl]
    exact wch_L _ _ _ _ F
end Go.Proofs.YteipiejlljnclaaGreatDoor
end
section
namespace Go.Proofs.YteipiejlljnclaaGreatDoor
open Go Go.AL
attribute [local irreducible] run opK opD callK
attribute [local simp] keep keepEnv keepRows keepAV keepPl keepBody keepElems keepElem keepCells lget inL normG mc_keep mc_keep0
def psl (ws : List (List Tm)) : List AV := ws.map fun p => .sl 11 (ps p)
theorem psl_len (ws : List (List Tm)) : (psl ws).length = ws.length := by simp [psl]
theorem psl_snoc (ws : List (List Tm)) (w : List Tm) : psl ws ++ [.sl 11 (ps w)] = psl (ws ++ [w]) := by simp [psl]
theorem psl_take (ws : List (List Tm)) : (psl ws).take ws.length = psl ws := List.take_of_length_le (by rw [psl_len]; exact Nat.le_refl _)
def dsc (d : Int × List (List Tm)) : AV := .agg [iv .i64 1, iv .i64 d.1, iv .i64 0, .sl 1 (psl d.2), bv false, .sl 1 [], .sl 1 [], bv false, .sl 1 [], .sl 1 []]
def dscs (ds : List (Int × List (List Tm))) : List AV := ds.map dsc
theorem dsc_len (ds : List (Int × List (List Tm))) : (dscs ds).length = ds.length := by simp [dscs]
theorem dsc_take (ds : List (Int × List (List Tm))) : (dscs ds).take ds.length = dscs ds := List.take_of_length_le (by rw [dsc_len]; exact Nat.le_refl _)
theorem dsc_snoc (ds : List (Int × List (List Tm))) (lo : Int) (ws : List (List Tm)) : dscs ds ++ [.agg [iv .i64 1, iv .i64 lo, iv .i64 0, .sl 1 (psl ws), bv false, .sl 1 [], .sl 1 [], bv false, .sl 1 [], .sl 1 []]] = dscs (ds ++ [(lo, ws)]) := by simp [dscs, dsc]
theorem pone_const : pone = pconst 1 := pconst_one.symm
theorem pconst_mul (c f : Rat) : pmul (pconst c) (pconst f) = pconst (c * f) := (pmul_Cn _ _).ext (pconst_Cn _) fun F => by
 rw [pmul_L, pconst_L, pconst_L, pconst_L, Mo.add_zero, Rat.mul_assoc]
theorem pone_mul (f : Rat) : pmul pone (pconst f) = pconst f := by rw [pone_const, pconst_mul, Rat.one_mul]
theorem xv_mul (v : Nat) (f : Rat) (hf : f ≠ 0) : pmul [(Xv v, 1)] (pconst f) = [(Xv v, f)] := by
 have hc : ∀ x : Rat, x ≠ 0 → Cn [(Xv v, x)] := fun x hx => ⟨List.pairwise_singleton _ _, fun t ht => by rw [List.mem_singleton.1 ht]; exact hx⟩
 rw [← ptimes_const (hc 1 (by decide))]
 unfold ptimes
 rw [List.map_cons, List.map_nil, Mo.add_zero, Rat.one_mul, List.filter_cons]
 simp [hf]
theorem qz_120 {r : Rat} (h : r.den ∣ 120) (hM : (sc 120 r).natAbs ≤ 1000) : Qz r :=
 Qz.of (D := 120) (by omega) h (PW.fit (M := 0) (by omega) (by omega)).1 (PW.fit (D := 0) (by omega) (by omega)).2
theorem one_fr (n : Nat) (hn : n = 2 ∨ n = 3) : (mkRat 1 (n - 1)).den ∣ 120 ∧ (sc 120 (mkRat 1 (n - 1))).natAbs ≤ 120 ∧ mkRat 1 (n - 1) ≠ 0 := by
 rcases hn with rfl | rfl <;> decide
theorem chance_120 (l : List Int) (a : Nat) : (chance l a).1.den ∣ 120 ∧ (sc 120 (chance l a).1).natAbs ≤ 120 := by
 obtain ⟨x, d, e, h1, h2, h3⟩ := chance_spec l a
 have := frac_le (n := 1) h1 h2 h3 (by omega)
 rw [show mkRat 1 1 = 1 by decide, Rat.mul_one, ← e] at this
 exact this
theorem prod_120 (l : List Int) (a n : Nat) (hn : n = 2 ∨ n = 3) : ((chance l a).1 * mkRat 1 (n - 1)).den ∣ 120 ∧ (sc 120 ((chance l a).1 * mkRat 1 (n - 1))).natAbs ≤ 120 := by
 obtain ⟨x, d, e, h1, h2, h3⟩ := chance_spec l a
 have := frac_le (n := n - 1) h1 h2 h3 (by omega)
 rwa [← e] at this
theorem cN1 (c : Rat) (h : c.den ∣ 120) (hM : (sc 120 c).natAbs ≤ 120) : CT 36 [pdat pone, .data (qr c)] { val := .sl 11 (ps (pconst c)), args := [pdat pone, .data (qr c)] } := by
 have := c_Number pone c pone_Cn (fun s hs => by
  rw [List.mem_singleton.1 hs]
  exact ⟨Mo.zero_ok, Qz.small (by decide) (by decide), by simp only [Rat.one_mul]; exact qz_120 h (by omega)⟩) (qz_120 h (by omega)) (by decide)
 rwa [pone_mul] at this
theorem cN2 (c f : Rat) (h : c.den ∣ 120) (hM : (sc 120 c).natAbs ≤ 120) (h' : f.den ∣ 120) (hM' : (sc 120 f).natAbs ≤ 120) (h2 : (c * f).den ∣ 120) (hM2 : (sc 120 (c * f)).natAbs ≤ 120) : CT 36 [pdat (pconst c), .data (qr f)] { val := .sl 11 (ps (pconst (c * f))), args := [pdat (pconst c), .data (qr f)] } := by
 have := c_Number (pconst c) f (pconst_Cn c) (fun s hs => by
  unfold pconst at hs
  split at hs
  ·cases hs
  ·rw [List.mem_singleton.1 hs]
   exact ⟨Mo.zero_ok, qz_120 (r := c) h (by omega), qz_120 (r := c * f) h2 (by omega)⟩) (qz_120 h' (by omega)) (by unfold pconst; split <;> simp)
 rwa [pconst_mul] at this
theorem cN3 (v : Nat) (hv : v < 2) (f : Rat) (h' : f.den ∣ 120) (hM' : (sc 120 f).natAbs ≤ 120) (hf : f ≠ 0) : CT 36 [pdat [(Xv v, 1)], .data (qr f)] { val := .sl 11 (ps [(Xv v, f)]), args := [pdat [(Xv v, 1)], .data (qr f)] } := by
 have hc : ∀ x : Rat, x ≠ 0 → Cn [(Xv v, x)] := fun x hx => ⟨List.pairwise_singleton _ _, fun t ht => by rw [List.mem_singleton.1 ht]; exact hx⟩
 have := c_Number [(Xv v, 1)] f (hc 1 (by decide)) (fun s hs => by
  rw [List.mem_singleton.1 hs]
  exact ⟨(Xv_ex hv).ok (by omega), Qz.small (q := 1) (by decide) (by decide), by simp only [Rat.one_mul]; exact qz_120 h' (by omega)⟩) (qz_120 h' (by omega)) (by simp)
 rwa [xv_mul v f hf] at this
theorem cMin (p w : List Tm) (M : Nat) (hM : M ≤ 1000) (hp : PW M p) (hw : PW 120 w) : CT 89 [pdat p, pdat w] { val := .sl 11 (ps (padd p (pneg w))), args := [pdat p, pdat w] } := by
 refine c_Minus p w 120 M 120 hp.cn hw.cn hp.pb (neg_PB hw) (PW.fit (by omega) (by omega)) (fun s hs => ?_) (by have := hp.len; have := hw.len; omega)
 have h1 := hw.pb.den s hs
 have h2 := Nat.le_trans (nrm_mem hs) hw.pb.le
 refine ⟨(hw.ex s hs).ok (by omega), qz_120 h1 (by omega), ?_⟩
 have e : s.2 * (-1 : Rat) = mkRat (-(sc 120 s.2)) 120 := by
  conv => lhs; rw [sc_spec (D := 120) (by omega) h1]
  rw [show (-1 : Rat) = mkRat (-1) 1 by decide, Rat.mkRat_mul_mkRat, Nat.mul_one]
  congr 1
  omega
 rw [e]
 exact qz_120 (mk_den _ _ (by omega)) (by rw [sc_mk _ (by omega), Int.natAbs_neg]; omega)
theorem c_VarX (v : Nat) (hv : v < 2) : CT 88 [.data (iv .i64 (v : Nat))] { val := .tup [.sl 11 (ps [(Xv v, 1)]), iv .i64 0], args := [.data (iv .i64 (v : Nat))] } := c_Var v (by omega)
theorem c_Chain (l : List Int) (a n params : Nat) (hl : l.length < 4611686018427387904) (ha : a ≤ l.length) (hn : n = 2 ∨ n = 3) (hp : params ≤ 2) : CT 40 [sp l a, .data (iv .i64 (n : Nat)), .data (iv .i64 (params : Nat))]
  {val := .sl 1 (psl (wch l a n params)), args := [sp l (chs l a n params (n - 1)).2.2, .data (iv .i64 (n : Nat)), .data (iv .i64 (params : Nat))] } := by
 have hn1 : (n : Int) - 1 = ((n - 1 : Nat) : Int) := by omega
 refine Ctr.intro ⟨Tryz.f40, _, Tryz.call40, Tryz.func40, fold_body (by rfl) (by kernel_rfl), (by simp [Tryz.ntmps40]), (by simp), (by kernel_rfl), ?_⟩
 refine wks ?_
 refine wk0 ?_
 refine callI (c_One) ?_
 refine wk0 ?_
 refine run_loop [0, 1, 2, 7, 8, 9] [0, 8] (α := {i : Nat // i ≤ n - 1})
  (fun i => ⟨[(0, .hp ⟨0, 0⟩ 0 0), (1, iv .i64 (n : Nat)), (2, iv .i64 (params : Nat)), (7, .sl 11 (ps (chs l a n params i.1).2.1)), (8, .hs ⟨8, 1⟩ 0 (chs l a n params i.1).1.length), (9, iv .i64 (i.1 + 1 : Nat))],
   [(0, ⟨0, true, true, .cells 3 [.agg [.sl 1 (ints l), iv .i64 ((chs l a n params i.1).2.2 : Nat), iv .i64 0]]⟩), (8, ⟨1, true, false, .cells 1 (psl (chs l a n params i.1).1)⟩)]⟩)
  (fun i => n - 1 - i.1) ⟨0, Nat.zero_le _⟩ (by first | rfl | simp [tc, qc]) ?_
 rintro ⟨i, hi⟩
 obtain ⟨h1, h2, h3, h4⟩ := chs_spec l a n params ha hn hp i
 refine wk0 ?_
 refine condK.dec (fun h => ?_) (fun h => ?_)
 ·have hin : i + 1 < n := by omega
  have e2 : chs l a n params (i + 1) = ((chs l a n params i).1 ++ [(wgt l (chs l a n params i).2.2 n params).1], padd (chs l a n params i).2.1 (pneg (wgt l (chs l a n params i).2.2 n params).1), (wgt l (chs l a n params i).2.2 n params).2) := rfl
  have hwp := wgt_PW l (chs l a n params i).2.2 n params hn hp
  generalize chs l a n params i = S at *
  have hcp := psl_len S.1
  have hc1 := c_Chance l S.2.2 hl h1
  have hc2 := chance_le l S.2.2 h1
  obtain ⟨hd1, hm1⟩ := chance_120 l S.2.2
  obtain ⟨hd2, hm2⟩ := prod_120 l S.2.2 n hn
  obtain ⟨hd3, hm3, hne⟩ := one_fr n hn
  have hn2 := cN2 (chance l S.2.2).1 (mkRat 1 (n - 1)) hd1 hm1 hd3 hm3 hd2 hm2
  have hn1' := cN1 (chance l S.2.2).1 hd1 hm1
  have hfr := c_fraction 1 (n - 1) (by omega) (by omega)
  obtain ⟨W, hW⟩ : ∃ W, W = wgt l S.2.2 n params := ⟨_, rfl⟩
  rw [← hW] at e2 hwp
  unfold wgt at hW
  generalize chance l S.2.2 = c at *
  clear hd1 hm1 hd2 hm2
  generalize c.1 * mkRat 1 (n - 1) = cf at *
  refine wk0 ?_
  refine callI (c_One) ?_
  refine wk0 ?_
  refine callI (hc1) ?_
  refine wk1 @qr.eq_1 ?_
  refine callI (hn1') ?_
  refine wk1 @hn1 ?_
  refine callI (hfr) ?_
  refine wk1 @qr.eq_1 ?_
  refine callI (hn2) ?_
  by_cases hp0 : params = 0
  ·rw [if_pos hp0] at hW
   have hd : decide ((0 : Int) < (params : Int)) = false := decide_eq_false (by omega)
   subst hW
   simp only at hwp e2
   have hm := cMin S.2.1 (pconst cf) (120 * (i + 1)) (by omega) h4 hwp
   refine wk1 @hd ?_
   refine callI (hm) ?_
   refine wk2 @psl_take @psl_snoc ?_
   refine ⟨⟨i + 1, by omega⟩, ?_, by simp only; omega⟩
   simp only [e2, List.length_append, List.length_cons, List.length_nil]
   exact (by first | rfl | simp [tc, qc])
  ·rw [if_neg hp0] at hW
   have hd : decide ((0 : Int) < (params : Int)) = true := decide_eq_true (by omega)
   have hN := c_N l c.2 3 hl hc2 (by decide) (by decide)
   have hle := rdN_le l c.2 3 hc2
   generalize rdN l c.2 3 = z at *
   refine wk1 @hd ?_
   refine callI (hN) ?_
   refine wk1 @hd ?_
   refine condK.dec (fun hz => ?_) (fun hz => ?_)
   ·rw [if_pos (by omega)] at hW
    have hN2 := c_N l z.2 params hl hle (by omega) (by omega)
    have hlt := rdN_lt l z.2 (n := params) (by omega)
    generalize rdN l z.2 params = v at *
    have hV := c_VarX v.1 (by omega)
    have hn3 := cN3 v.1 (by omega) (mkRat 1 (n - 1)) hd3 hm3 hne
    subst hW
    simp only at hwp e2
    have hm := cMin S.2.1 [(Xv v.1, mkRat 1 (n - 1))] (120 * (i + 1)) (by omega) h4 hwp
    refine wk0 ?_
    refine callI (hN2) ?_
    refine wk0 ?_
    refine callI (hV) ?_
    refine wk1 @hn1 ?_
    refine callI (hfr) ?_
    refine wk1 @qr.eq_1 ?_
    refine callI (hn3) ?_
    refine wk0 ?_
    refine callI (hm) ?_
    refine wk2 @psl_take @psl_snoc ?_
    refine ⟨⟨i + 1, by omega⟩, ?_, by simp only; omega⟩
    simp only [e2, List.length_append, List.length_cons, List.length_nil]
    exact (by first | rfl | simp [tc, qc])
   ·rw [if_neg (by omega)] at hW
    subst hW
    simp only at hwp e2
    have hm := cMin S.2.1 (pconst cf) (120 * (i + 1)) (by omega) h4 hwp
    refine wk0 ?_
    refine callI (hm) ?_
    refine wk2 @psl_take @psl_snoc ?_
    refine ⟨⟨i + 1, by omega⟩, ?_, by simp only; omega⟩
    simp only [e2, List.length_append, List.length_cons, List.length_nil]
    exact (by first | rfl | simp [tc, qc])
 ·have hin : i = n - 1 := by omega
  subst hin
  unfold wch
  generalize chs l a n params (n - 1) = S at *
  have hcp := psl_len S.1
  have ht : List.take (S.1.length + 1) (psl (S.1 ++ [S.2.1])) = psl (S.1 ++ [S.2.1]) := by
   have := psl_take (S.1 ++ [S.2.1])
   rwa [List.length_append] at this
  refine wk2 @psl_take @psl_snoc ?_
  simp [memOut, lget, VC, packOut, packKeys, cellsOf, cellKeys, disjB, inL, AV.isAgg, cellOut, cellsOut, cleanL, cleanCell, hsOut, psl_len, dsc_len, psl_take, dsc_take]
  exact ht
theorem c_Dists (l : List Int) (a k params : Nat) (hl : l.length < 4611686018427387904) (ha : a ≤ l.length) (hk : k < 100) (hp : params ≤ 2) : CT 21 [sp l a, .data (iv .i64 (k : Nat)), .data (iv .i64 (params : Nat))]
  {val := .sl 10 (dscs (dst l a params k).1), args := [sp l (dst l a params k).2, .data (iv .i64 (k : Nat)), .data (iv .i64 (params : Nat))] } := by
 refine Ctr.intro ⟨Tryz.f21, _, Tryz.call21, Tryz.func21, fold_body (by rfl) (by kernel_rfl), (by simp [Tryz.ntmps21]), (by simp), (by kernel_rfl), ?_⟩
 refine wks ?_
 refine wk0 ?_
 refine run_loop [0, 1, 2, 7, 8] [0, 7] (α := {i : Nat // i ≤ k})
  (fun i => ⟨[(0, .hp ⟨0, 0⟩ 0 0), (1, iv .i64 (k : Nat)), (2, iv .i64 (params : Nat)), (7, .hs ⟨7, 1⟩ 0 (dst l a params i.1).1.length), (8, iv .i64 i.1)],
   [(0, ⟨0, true, true, .cells 3 [.agg [.sl 1 (ints l), iv .i64 ((dst l a params i.1).2 : Nat), iv .i64 0]]⟩), (7, ⟨1, true, false, .cells 10 (dscs (dst l a params i.1).1)⟩)]⟩)
  (fun i => k - i.1) ⟨0, Nat.zero_le _⟩ (by first | rfl | simp [tc, qc]) ?_
 rintro ⟨i, hi⟩
 have h1 := dst_le l a params ha hp i
 have h2 := dst_len l a params i
 have h3 := dsc_len (dst l a params i).1
 refine wk0 ?_
 refine condK.dec (fun h => ?_) (fun h => ?_)
 ·have e2 : dst l a params (i + 1) = ((dst l a params i).1 ++ [(-1 + ((rdN l (dst l a params i).2 3).1 : Int), wch l (rdN l (dst l a params i).2 3).2 (wid i) params)], (chs l (rdN l (dst l a params i).2 3).2 (wid i) params (wid i - 1)).2.2) := rfl
  generalize dst l a params i = S at *
  have hr := c_Range l S.2 3 (-1) 1 hl h1 (by omega) (by omega) (by omega) (by omega)
  have hle := rdN_le l S.2 3 h1
  generalize rdN l S.2 3 = R at *
  have hch := c_Chain l R.2 (wid i) params hl hle (wid_two i) hp
  generalize wch l R.2 (wid i) params = W at *
  generalize (chs l R.2 (wid i) params (wid i - 1)).2.2 = b at *
  refine wk0 ?_
  refine callI (hr) ?_
  refine wk0 ?_
  refine callI (c_Width i (by omega)) ?_
  refine wk0 ?_
  refine callI (hch) ?_
  refine wk2 @dsc_take @dsc_snoc ?_
  refine ⟨⟨i + 1, by omega⟩, ?_, by simp only; omega⟩
  simp only [e2, List.length_append, List.length_cons, List.length_nil]
  exact (by first | rfl | simp [tc, qc])
 ·have hik : i = k := by omega
  subst hik
  generalize dst l a params i = S at *
  refine wk0 ?_
  simp [memOut, lget, VC, packOut, packKeys, cellsOf, cellKeys, disjB, inL, AV.isAgg, cellOut, cellsOut, cleanL, cleanCell, hsOut, psl_len, dsc_len, psl_take, dsc_take]
end Go.Proofs.YteipiejlljnclaaGreatDoor
end
