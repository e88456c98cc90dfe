/- polynomial/sparse: maps of monomials, the collection of terms (plain); IndexFunc and DeleteFunc of terms that are 0. Conditions stand in each. -/
import Derived.Test.YteipiejlljnclaaGreatDoorRDa
import Derived.Test.YteipiejlljnclaaGreatDoorRHa
import Derived.Test.YteipiejlljnclaaGreatDoorRFj
import Derived.Test.YteipiejlljnclaaGreatDoorRIa
set_option linter.unusedVariables false
set_option linter.unusedSimpArgs false
set_option maxRecDepth 10000
set_option maxHeartbeats 8000000
section
namespace Go.Proofs.YteipiejlljnclaaGreatDoor
open Go Go.AL
attribute [local irreducible] run opK opD callK
attribute [local simp] keep keepEnv keepRows keepAV keepPl keepBody keepElems keepElem keepCells lget inL normG mc_keep mc_keep0
theorem c_NormQ (q : Rat) (h : Qz q) : CT 166 [.data (qr q)] { val := qr q, args := [.data (qr q)] } := by
 have := c_Norm (decide (q.num < 0)) _ _ h.n h.d
 rwa [ratOf_qr] at this
theorem c_SignQ (q : Rat) (h : Qz q) : CT 163 [.data (qr q)] { val := iv .i64 (sgn q), args := [.data (qr q)] } := by
 have := c_Sign (decide (q.num < 0)) _ _ h.n h.d
 rwa [ratOf_qr] at this
theorem c_AddQ (x y : Rat) (hx : Qz x) (hy : Qz y) : CT 162 [.data (qr x), .data (qr y)] { val := qr (x + y), args := [.data (qr x), .data (qr y)] } := by
 have := c_RAdd (decide (x.num < 0)) (decide (y.num < 0)) _ _ _ _ hx.n hx.d hy.n hy.d
 rwa [ratOf_qr, ratOf_qr] at this
theorem c_MulQ (x y : Rat) (hx : Qz x) (hy : Qz y) : CT 100 [.data (qr x), .data (qr y)] { val := qr (x * y), args := [.data (qr x), .data (qr y)] } := by
 have := c_RMul (decide (x.num < 0)) (decide (y.num < 0)) _ _ _ _ hx.n hx.d hy.n hy.d
 rwa [ratOf_qr, ratOf_qr] at this
def entM (l : List Mo) : List (AV × AV) := (l.zipIdx 0).map fun x => (.agg (mc x.1), .sc (.int .i64 (x.2 : Nat)))
theorem entM_snoc (l : List Mo) (m : Mo) : entM l ++ [(.agg (mc m), .sc (.int .i64 (l.length : Nat)))] = entM (l ++ [m]) := by
 unfold entM; rw [List.zipIdx_append]; simp
theorem mget_mgo {m : Mo} : ∀ {l : List Mo} (k : Nat), mget (.agg (mc m)) ((l.zipIdx k).map fun x => (.agg (mc x.1), .sc (.int .i64 (x.2 : Nat)))) = if m ∈ l then some (.sc (.int .i64 ((k + l.idxOf m : Nat) : Int))) else none
 | [], k => rfl
 | a :: l, k => by
  simp only [List.zipIdx_cons, List.map_cons, mget, mc_keyEq]
  rw [mget_mgo (k + 1)]
  by_cases e : m = a
  ·subst e; simp
  ·have e' : ¬ a = m := fun h => e h.symm
   simp only [e, decide_false, Bool.false_eq_true, if_false, List.mem_cons, false_or]
   split
   ·rw [List.idxOf_cons, show (a == m) = false by simpa using e']
    simp only [cond_false]
    congr 4
    omega
   ·rfl
theorem mget_entM {m : Mo} {l : List Mo} : mget (.agg (mc m)) (entM l) = if m ∈ l then some (.sc (.int .i64 (l.idxOf m : Nat))) else none := by
 have := mget_mgo (m := m) (l := l) 0
 simpa [entM] using this
theorem mset_entM {m : Mo} {l : List Mo} (hm : m ∉ l) : mset (.agg (mc m)) (.sc (.int .i64 (l.length : Nat))) (entM l) = entM (l ++ [m]) := by
 rw [mset_new (by rw [mget_entM, if_neg hm]), entM_snoc]
def ms (o : List Tm) : List Mo := o.map (·.1)
def col : List Tm → Tm → List Tm
 | [], t => [t]
 | s :: o, t => if s.1 = t.1 then (s.1, s.2 + t.2) :: o else s :: col o t
theorem col_new {o : List Tm} {t : Tm} (h : t.1 ∉ ms o) : col o t = o ++ [t] := by
 induction o with
 | nil => rfl
 | cons s o ih =>
  have h1 : ¬ s.1 = t.1 := fun e => h (by simp [ms, e])
  rw [col, if_neg h1, ih fun hm => h (by simp only [ms, List.map_cons]; exact .tail _ hm)]; rfl
theorem col_old {o : List Tm} {t : Tm} (h : t.1 ∈ ms o) : (ms o).idxOf t.1 < o.length ∧ (gp o ((ms o).idxOf t.1)).1 = t.1 ∧ col o t = o.set ((ms o).idxOf t.1) ((gp o ((ms o).idxOf t.1)).1, (gp o ((ms o).idxOf t.1)).2 + t.2) := by
 induction o with
 | nil => cases h
 | cons s o ih =>
  simp only [ms, List.map_cons]
  by_cases e : s.1 = t.1
  ·rw [List.idxOf_cons, show (s.1 == t.1) = true by simpa using e, col, if_pos e]
   simp only [cond_true]
   exact ⟨by simp, e, by simp [gp]⟩
  ·have hm : t.1 ∈ ms o := by
    simp only [ms, List.map_cons, List.mem_cons] at h
    exact h.resolve_left fun h => e h.symm
   obtain ⟨h1, h2, h3⟩ := ih hm
   rw [List.idxOf_cons, show (s.1 == t.1) = false by simpa using e, col, if_neg e]
   simp only [cond_false]
   refine ⟨by simp only [List.length_cons]; simpa [ms] using h1, ?_, ?_⟩
   ·have : gp (s :: o) ((List.map (·.1) o).idxOf t.1 + 1) = gp o ((ms o).idxOf t.1) := by simp [gp, ms]
    rw [this]; exact h2
   ·have : gp (s :: o) ((List.map (·.1) o).idxOf t.1 + 1) = gp o ((ms o).idxOf t.1) := by simp [gp, ms]
    rw [this, List.set_cons_succ, h3]; rfl
theorem col_ms (o : List Tm) (t : Tm) : ms (col o t) = if t.1 ∈ ms o then ms o else ms o ++ [t.1] := by
 split
 ·rename_i h
  obtain ⟨h1, h2, h3⟩ := col_old h
  rw [h3]
  simp only [ms, List.map_set]
  refine List.ext_getElem (by simp) fun j h4 h5 => ?_
  rw [List.getElem_set]
  split
  ·rename_i e; subst e
   simpa [gp, ms] using h2
  ·rfl
 ·rename_i h
  rw [col_new h]; simp [ms]
theorem ms_len (o : List Tm) : (ms o).length = o.length := by simp [ms]
theorem col_nodup {o : List Tm} (h : (ms o).Nodup) (t : Tm) : (ms (col o t)).Nodup := by
 rw [col_ms]
 split
 ·exact h
 ·rename_i hm
  refine List.nodup_append.2 ⟨h, by simp, fun a ha b hb => ?_⟩
  rw [List.mem_singleton.1 hb]
  exact fun e => hm (e ▸ ha)
theorem col_L (o : List Tm) (t : Tm) (F : Mo → Rat) : L (col o t) F = L o F + t.2 * F t.1 := by
 induction o with
 | nil => simp only [col, L_cons, L_nil]; rw [Rat.add_zero, Rat.zero_add]
 | cons s o ih =>
  rw [col]
  split
  ·rename_i e
   rw [L_cons, L_cons, ← e, Rat.add_mul]
   simp only
   grind
  ·rw [L_cons, L_cons, ih, Rat.add_assoc]
theorem col_len (o : List Tm) (t : Tm) : (col o t).length ≤ o.length + 1 := by
 induction o with
 | nil => simp [col]
 | cons s o ih => rw [col]; split <;> simp <;> omega
theorem col_PB {D M : Nat} {o : List Tm} {t : Tm} (h : PB D M o) (ht : t.2.den ∣ D) : PB D (M + (sc D t.2).natAbs) (col o t) := by
 have key : ∀ {o : List Tm}, (∀ s ∈ o, s.2.den ∣ D) → nrm D (col o t) ≤ nrm D o + (sc D t.2).natAbs ∧ ∀ s ∈ col o t, s.2.den ∣ D := by
  intro o
  induction o with
  | nil => intro _; exact ⟨by simp [col, nrm], fun s hs => by rw [List.mem_singleton.1 hs]; exact ht⟩
  | cons s o ih =>
   intro h
   have hs := h s (.head _)
   obtain ⟨i1, i2⟩ := ih fun s hs => h s (.tail _ hs)
   rw [col]
   split
   ·refine ⟨?_, fun x hx => ?_⟩
    ·simp only [nrm, sc_add (PB.pos ‹_›) hs ht]
     have := Int.natAbs_add_le (sc D s.2) (sc D t.2)
     omega
    ·rcases List.mem_cons.1 hx with rfl | hx
     ·exact den_add (PB.pos ‹_›) hs ht
     ·exact h x (.tail _ hx)
   ·refine ⟨by simp only [nrm]; omega, fun x hx => ?_⟩
    rcases List.mem_cons.1 hx with rfl | hx
    ·exact hs
    ·exact i2 x hx
 obtain ⟨h1, h2⟩ := key h.den
 exact ⟨h.pos, h2, by have := h.le; omega⟩
def colL (l : List Tm) : List Tm := l.foldl col []
theorem colF_PB {D : Nat} : ∀ {l o : List Tm} {M M' : Nat}, PB D M o → PB D M' l → PB D (M + M') (l.foldl col o)
 | [], o, M, M', h, h' => h.mono (Nat.le_add_right _ _)
 | t :: l, o, M, M', h, h' => by
  have h1 := h'.le
  simp only [nrm] at h1
  have := colF_PB (l := l) (col_PB h (h'.den t (.head _))) (M' := M' - (sc D t.2).natAbs) ⟨h'.pos, fun s hs => h'.den s (.tail _ hs), by omega⟩
  exact this.mono (by omega)
theorem colF_nodup : ∀ (l : List Tm) {o : List Tm}, (ms o).Nodup → (ms (l.foldl col o)).Nodup
 | [], _, h => h
 | t :: l, _, h => colF_nodup l (col_nodup h t)
theorem colF_L (F : Mo → Rat) : ∀ (l o : List Tm), L (l.foldl col o) F = L o F + L l F
 | [], o => by rw [L_nil, Rat.add_zero]; rfl
 | t :: l, o => by rw [List.foldl_cons, colF_L F l, col_L, L_cons, Rat.add_assoc]
theorem colF_len : ∀ (l o : List Tm), (l.foldl col o).length ≤ o.length + l.length
 | [], o => by simp
 | t :: l, o => by have := colF_len l (col o t); have := col_len o t; simp only [List.foldl_cons, List.length_cons]; omega
def nz (t : Tm) : Bool := decide (t.2 ≠ 0)
theorem filter_L (F : Mo → Rat) : ∀ (l : List Tm), L (l.filter nz) F = L l F
 | [] => rfl
 | t :: l => by
  rw [List.filter_cons]
  unfold nz
  by_cases h : t.2 = 0
  ·simp only [h, ne_eq, not_true_eq_false, decide_false, Bool.false_eq_true, if_false, L_cons, Rat.zero_mul, Rat.zero_add]
   exact filter_L F l
  ·simp only [h, ne_eq, not_false_eq_true, decide_true, if_true, L_cons]
   rw [show L (List.filter (fun t => decide (¬t.2 = 0)) l) F = L l F from filter_L F l]
theorem col_nf (l : List Tm) : nf ((colL l).filter nz) = nf l := nf_eq fun m => by
 show L _ _ = L _ _
 rw [filter_L, colL, colF_L, L_nil, Rat.zero_add]
theorem col_good (l : List Tm) : (((colL l).filter nz).map (·.1)).Nodup ∧ ∀ t ∈ (colL l).filter nz, t.2 ≠ 0 := by
 refine ⟨?_, fun t ht => by simpa [nz] using (List.mem_filter.1 ht).2⟩
 have := colF_nodup l (o := []) (by simp [ms])
 exact List.Nodup.sublist (List.Sublist.map _ List.filter_sublist) this
theorem c_zero (t : Tm) (h : Qz t.2) : CT 168 [tdat t] { val := bv (decide (t.2 = 0)), args := [tdat t] } := by
 have e : decide (sgn t.2 = 0) = decide (t.2 = 0) := decide_eq_decide.2 sgn_zero
 rw [← e]
 refine Ctr.intro ⟨Tryz.f168, _, Tryz.call168, Tryz.func168, fold_body (by rfl) (by kernel_rfl), (by simp [Tryz.ntmps168]), (by simp), (by kernel_rfl), ?_⟩
 refine wks ?_
 refine wk0 ?_
 refine callI (c_SignQ _ h) ?_
 refine wk0 ?_
 simp [VC]
@[go_sem] abbrev zfn : AV := .sc (.func (.func 168) #[] #[])
theorem c_IndexF (o : List Tm) (hq : ∀ t ∈ o, Qz t.2) (hl : o.length < 549755813888) (R : Int) (hR : (R = -1 ∧ ∀ j, j < o.length → (gp o j).2 ≠ 0) ∨ ∃ i : Nat, i < o.length ∧ R = i ∧ (gp o i).2 = 0 ∧ ∀ j, j < i → (gp o j).2 ≠ 0) :
  CT 219 [.slc (.cells 11 (ps o)), .data zfn] { val := iv .i64 R, args := [.slc (.cells 11 (ps o)), .data zfn] } := by
 refine Ctr.intro ⟨Tryz.f219, _, Tryz.call219, Tryz.func219, fold_body (by rfl) (by kernel_rfl), (by simp [Tryz.ntmps219]), (by simp), (by kernel_rfl), ?_⟩
 refine wks ?_
 refine wk0 ?_
 refine run_loop [0, 1, 7, 8] [0] (α := {i : Nat // i ≤ o.length ∧ ∀ j, j < i → (gp o j).2 ≠ 0})
  (fun i => ⟨[(0, .hs ⟨0, 0⟩ 0 o.length), (1, zfn), (7, iv .i64 o.length), (8, iv .i64 i.1)], [(0, ⟨0, true, false, .cells 11 (ps o)⟩)]⟩)
  (fun i => o.length - i.1) ⟨0, Nat.zero_le _, fun j h => absurd h (Nat.not_lt_zero _)⟩ (by first | rfl | simp [tc, qc]) ?_
 rintro ⟨i, hi, hn⟩
 refine wk0 ?_
 refine condK.dec (fun h => ?_) (fun h => ?_)
 ·have hio : i < o.length := by omega
  have hc := c_zero (gp o i) (hq _ (gp_mem hio))
  refine wk0 ?_
  refine callI (hc) ?_
  by_cases hz : (gp o i).2 = 0
  ·have hRi : R = (i : Int) := by
    rcases hR with ⟨_, h2⟩ | ⟨k, h1, h2, h3, h4⟩
    ·exact absurd hz (h2 i hio)
    ·rcases Nat.lt_trichotomy i k with h5 | h5 | h5
     ·exact absurd hz (h4 i h5)
     ·rw [h2, h5]
     ·exact absurd h3 (hn k h5)
   refine wk1 (decide_eq_true hz) ?_
   simp [memOut, lget, VC, hRi]
  ·refine wk1 (decide_eq_false hz) ?_
   refine ⟨⟨i + 1, by omega, fun j hj => ?_⟩, (by first | rfl | simp [tc, qc]), by simp only; omega⟩
   by_cases e : j = i
   ·rw [e]; exact hz
   ·exact hn j (by omega)
 ·have hio : i = o.length := by omega
  have hRi : R = -1 := by
   rcases hR with ⟨h1, _⟩ | ⟨k, h1, h2, h3, h4⟩
   ·exact h1
   ·exact absurd h3 (hn k (by omega))
  refine wk0 ?_
  simp [memOut, lget, VC, hRi]
theorem gp_of_drop {R o : List Tm} {j : Nat} (h : R.drop j = o.drop j) : gp R j = gp o j := by
 have e : (R.drop j)[0]? = (o.drop j)[0]? := by rw [h]
 rw [List.getElem?_drop, List.getElem?_drop, Nat.add_zero] at e
 unfold gp
 rw [List.getD_eq_getElem?_getD, List.getD_eq_getElem?_getD, e]
theorem filter_take_succ {o : List Tm} {j : Nat} (h : j < o.length) : (o.take (j + 1)).filter nz = if (gp o j).2 = 0 then (o.take j).filter nz else (o.take j).filter nz ++ [gp o j] := by
 rw [gp_take h, List.filter_append]
 split
 ·rename_i hz; simp [nz, hz]
 ·rename_i hz; simp [nz, hz]
theorem first_zero (o : List Tm) : (∀ j, j < o.length → (gp o j).2 ≠ 0) ∨ ∃ i : Nat, i < o.length ∧ (gp o i).2 = 0 ∧ ∀ j, j < i → (gp o j).2 ≠ 0 := by
 have key : ∀ n, n ≤ o.length → (∀ j, j < n → (gp o j).2 ≠ 0) ∨ ∃ i : Nat, i < o.length ∧ (gp o i).2 = 0 ∧ ∀ j, j < i → (gp o j).2 ≠ 0 := by
  intro n
  induction n with
  | zero => intro _; exact .inl fun j h => absurd h (Nat.not_lt_zero _)
  | succ n ih =>
   intro hn
   rcases ih (by omega) with h | h
   ·by_cases hz : (gp o n).2 = 0
    ·exact .inr ⟨n, by omega, hz, h⟩
    ·refine .inl fun j hj => ?_
     by_cases e : j = n
     ·rw [e]; exact hz
     ·exact h j (by omega)
   ·exact .inr h
 exact key _ (Nat.le_refl _)
theorem filter_all {o : List Tm} {n : Nat} (hn : n ≤ o.length) (h : ∀ j, j < n → (gp o j).2 ≠ 0) : (o.take n).filter nz = o.take n := by
 induction n with
 | zero => simp
 | succ n ih => rw [filter_take_succ (by omega), if_neg (h n (by omega)), ih (by omega) fun j hj => h j (by omega), gp_take (by omega)]
theorem c_DeleteF (o : List Tm) (hq : ∀ t ∈ o, Qz t.2) (hl : o.length < 549755813888) :
  CT 167 [.slc (.cells 11 (ps o)), .data zfn] { val := .hs ⟨0, 0⟩ 0 (o.filter nz).length, new := [.slc (.cells 11 (ps (o.filter nz)))], args := [.lost, .data zfn] } := by
 refine Ctr.intro ⟨Tryz.f167, _, Tryz.call167, Tryz.func167, fold_body (by rfl) (by kernel_rfl), (by simp [Tryz.ntmps167]), (by simp), (by kernel_rfl), ?_⟩
 refine wks ?_
 refine wk0 ?_
 rcases first_zero o with h0 | ⟨k, hk, hz, hb⟩
 ·have ef : o.filter nz = o := by
   have := filter_all (Nat.le_refl _) h0
   rwa [List.take_length] at this
  rw [ef]
  refine callI (c_IndexF o hq hl (-1) (.inl ⟨rfl, h0⟩)) ?_
  refine wk0 ?_
  simp [memOut, memKeys, outOK, lget, VC]
 ·refine callI (c_IndexF o hq hl k (.inr ⟨k, hk, rfl, hz, hb⟩)) ?_
  have hk1 : ¬ (k : Int) = -1 := by omega
  refine wk2 @hk1 @decide_false ?_
  refine run_loop [0, 1, 5, 6] [0] (α := {s : Nat × Nat × List Tm // s.1 ≤ s.2.1 ∧ s.2.1 ≤ o.length ∧ s.2.2.length = o.length ∧ s.2.2.take s.1 = (o.take s.2.1).filter nz ∧ s.2.2.drop s.2.1 = o.drop s.2.1})
   (fun s => ⟨[(0, .hs ⟨0, 0⟩ 0 o.length), (1, zfn), (5, iv .i64 s.1.1), (6, iv .i64 s.1.2.1)], [(0, ⟨0, true, false, .cells 11 (ps s.1.2.2)⟩)]⟩)
   (fun s => o.length - s.1.2.1) ⟨(k, k + 1, o), by simp only; omega, by simp only; omega, rfl, by simp only; rw [filter_take_succ hk, if_pos hz, filter_all (by omega) hb], rfl⟩ (by first | rfl | simp [tc, qc]) ?_
  rintro ⟨⟨i, j, R⟩, h1, h2, h3, h4, h5⟩
  simp only at h1 h2 h3 h4 h5
  refine wk0 ?_
  refine condK.dec (fun h => ?_) (fun h => ?_)
  ·have hjo : j < o.length := by omega
   have hg := gp_of_drop h5
   have hc := c_zero (gp R j) (by rw [hg]; exact hq _ (gp_mem hjo))
   have hf := filter_take_succ hjo
   have h5' : R.drop (j + 1) = o.drop (j + 1) := by
    have e := congrArg (List.drop 1) h5
    rwa [List.drop_drop, List.drop_drop] at e
   refine wk0 ?_
   refine callI (hc) ?_
   by_cases hz : (gp R j).2 = 0
   ·rw [hg] at hz
    rw [if_pos hz] at hf
    rw [← hg] at hz
    refine wk1 (decide_eq_true hz) ?_
    exact ⟨⟨(i, j + 1, R), by simp only; omega, by simp only; omega, h3, h4.trans hf.symm, h5'⟩, (by first | rfl | simp [tc, qc]), by simp only; omega⟩
   ·rw [hg] at hz
    rw [if_neg hz] at hf
    rw [← hg] at hz hf
    refine wk1 (decide_eq_false hz) ?_
    refine ⟨⟨(i + 1, j + 1, R.set i (gp R j)), by simp only; omega, by simp only; omega, by simp only [List.length_set]; exact h3, ?_, ?_⟩, (by first | rfl | simp [tc, qc]), by simp only; omega⟩
    ·simp only
     rw [hf, ← h4, List.take_succ_eq_append_getElem (by rw [List.length_set]; omega), List.getElem_set_self, List.take_set_of_le (Nat.le_refl _)]
    ·simp only
     rw [List.drop_set_of_lt (by omega)]; exact h5'
  ·have hjo : j = o.length := by omega
   subst hjo
   rw [List.take_length] at h4
   have hil : i = (o.filter nz).length := by rw [← h4, List.length_take]; omega
   refine wk0 ?_
   simp [memOut, memKeys, outOK, lget, VC]
   refine ⟨hil.symm, by omega, ?_⟩
   rw [List.take_append_of_le_length (by rw [ps_len, List.length_take]; omega), ps_take, List.take_take, Nat.min_self, h4]
end Go.Proofs.YteipiejlljnclaaGreatDoor
end
section
namespace Go.Proofs.YteipiejlljnclaaGreatDoor
open Go Go.AL
attribute [local irreducible] run opK opD callK
attribute [local simp] keep keepEnv keepRows keepAV keepPl keepBody keepElems keepElem keepCells lget inL normG mc_keep mc_keep0
theorem ins_len_new {t : Tm} (ht : t.2 ≠ 0) : ∀ {p : List Tm}, (∀ s ∈ p, s.1 ≠ t.1) → (ins p t).length = p.length + 1
 | [], _ => by rw [ins, if_neg ht]; rfl
 | s :: l, h => by
  have h1 := h s (.head _)
  have ih := ins_len_new ht (p := l) fun s hs => h s (.tail _ hs)
  rw [ins]
  by_cases a : mgt s.1 t.1 = true
  ·rw [if_pos a]; simp [ih]
  ·rw [if_neg a, if_neg h1, if_neg ht]; simp
theorem foldl_ins_len : ∀ (l : List Tm) {p : List Tm}, (l.map (·.1)).Nodup → (∀ t ∈ l, t.2 ≠ 0) → (∀ t ∈ l, ∀ s ∈ p, s.1 ≠ t.1) → (l.foldl ins p).length = p.length + l.length
 | [], p, _, _, _ => rfl
 | t :: l, p, hn, hz, hd => by
  rw [List.map_cons, List.nodup_cons] at hn
  rw [List.foldl_cons, foldl_ins_len l hn.2 (fun x hx => hz x (.tail _ hx)) fun u hu => ?_, ins_len_new (hz t (.head _)) (hd t (.head _)), List.length_cons]
  ·omega
  ·refine ins_all (P := fun m => m ≠ u.1) ?_ (hd u (.tail _ hu))
   intro e
   exact hn.1 (e ▸ List.mem_map_of_mem hu)
theorem nf_len {l : List Tm} (hn : (l.map (·.1)).Nodup) (hz : ∀ t ∈ l, t.2 ≠ 0) : (nf l).length = l.length := by
 have := foldl_ins_len l hn hz (p := []) (fun t _ s hs => by cases hs)
 rw [nf, this]; simp
theorem foldl_col_succ {l : List Tm} {i : Nat} (h : i < l.length) : (l.take (i + 1)).foldl col [] = col ((l.take i).foldl col []) (gp l i) := by
 rw [gp_take h, List.foldl_append]; rfl
theorem c_Collect (l : List Tm) (D M : Nat) (h : PB D M l) (hf : Fit D M) (hl : l.length < 549755813888) : CT 97 [pdat l] { val := .sl 11 (ps (nf l)), args := [pdat l] } := by
 refine Ctr.intro ⟨Tryz.f97, _, Tryz.call97, Tryz.func97, fold_body (by rfl) (by kernel_rfl), (by simp [Tryz.ntmps97]), (by simp), (by kernel_rfl), ?_⟩
 refine wks ?_
 refine wk0 ?_
 refine run_loop [3, 4, 13, 14, 15] [9, 12] (α := {i : Nat // i ≤ l.length})
  (fun i => ⟨[(3, .hm ⟨9, 1⟩), (4, .hs ⟨12, 1⟩ 0 ((l.take i.1).foldl col []).length), (13, .sl 11 (ps l)), (14, iv .i64 l.length), (15, iv .i64 i.1)],
   [(9, ⟨1, true, false, .map (.arr 8 .i64) (entM (ms ((l.take i.1).foldl col [])))⟩), (12, ⟨1, true, false, .cells 11 (ps ((l.take i.1).foldl col []))⟩)]⟩)
  (fun i => l.length - i.1) ⟨0, Nat.zero_le _⟩ (by first | rfl | simp [tc, qc]) ?_
 rintro ⟨i, hi⟩
 have n2 := nrm_take_le (D := D) l i
 have n3 := h.le
 have hout := colF_PB (PB.nil (M := 0) h.pos) (h.take i)
 have hlen := colF_len (l.take i) []
 rw [List.length_take] at hlen
 simp only [List.length_nil] at hlen
 have hnd := colF_nodup (l.take i) (o := []) (by simp [ms])
 have hq : ∀ t ∈ (l.take i).foldl col [], Qz t.2 := fun t ht => hout.qz (hf.le (by omega)) ht
 clear hout n2 n3
 refine wk0 ?_
 refine condK.dec (fun hc => ?_) (fun hc => ?_)
 ·have hil : i < l.length := by omega
  have hs := foldl_col_succ hil
  have hqi := h.qz hf (gp_mem hil)
  have hml := ms_len ((l.take i).foldl col [])
  generalize (l.take i).foldl col [] = o at *
  by_cases hm : (gp l i).1 ∈ ms o
  ·obtain ⟨h1, h2, h3⟩ := col_old hm
   have hg : mget (.agg (mc (gp l i).1)) (entM (ms o)) = some (.sc (.int .i64 ((ms o).idxOf (gp l i).1 : Nat))) := by rw [mget_entM, if_pos hm]
   have hms : ms (col o (gp l i)) = ms o := by rw [col_ms, if_pos hm]
   have hadd := c_AddQ _ _ (hq _ (gp_mem h1)) hqi
   clear hq hqi hm
   generalize (ms o).idxOf (gp l i).1 = k at *
   generalize (gp o k).2 + (gp l i).2 = r at *
   rw [h3] at hs hms
   have hsl : (o.set k ((gp o k).1, r)).length = o.length := List.length_set
   refine wk1 @hg ?_
   refine callI (hadd) ?_
   refine wk1 @qr.eq_1 ?_
   refine vcalm (by kernel_rfl) ?_
   refine wk1 @qr.eq_1 ?_
   refine ⟨⟨i + 1, by omega⟩, ?_, by simp only; omega⟩
   simp only [hs, hms, hsl]
   exact (by first | rfl | simp [tc, qc])
  ·have hg : mget (.agg (mc (gp l i).1)) (entM (ms o)) = none := by rw [mget_entM, if_neg hm]
   have hst := mset_entM hm
   have hms : ms (col o (gp l i)) = ms o ++ [(gp l i).1] := by rw [col_ms, if_neg hm]
   rw [hml] at hst
   rw [col_new hm] at hs hms
   have hn := c_NormQ _ hqi
   clear hq hqi hm
   refine wk1 @hg ?_
   refine callI (hn) ?_
   refine wk2 @qr.eq_1 @hst ?_
   refine vcalm (by kernel_rfl) ?_
   refine wk2 @qr.eq_1 @hst ?_
   refine ⟨⟨i + 1, by omega⟩, ?_, by simp only; omega⟩
   simp only [hs, hms, List.length_append, List.length_cons, List.length_nil]
   exact (by first | rfl | simp [tc, qc])
 ·have hil : i = l.length := by omega
  subst hil
  rw [List.take_length] at hlen hq hnd ⊢
  obtain ⟨g1, g2⟩ := col_good l
  have g3 := col_nf l
  have g4 := nf_len g1 g2
  unfold colL at g1 g2 g3 g4
  generalize l.foldl col [] = o at *
  have hd := c_DeleteF o hq (by omega)
  have hfl : (o.filter nz).length ≤ o.length := List.length_filter_le _ _
  generalize o.filter nz = F at *
  have hsrt := c_SortP cmp169 F (by omega) g1 g2
  rw [← g3]
  refine wk0 ?_
  refine callI (hd) ?_
  refine wk0 ?_
  refine callI (hsrt) ?_
  refine wk0 ?_
  simp [memOut, outOK, lget, VC, hsOut, cellOut, ps_take, g4]
  rw [← g4, List.take_length]
end Go.Proofs.YteipiejlljnclaaGreatDoor
end
