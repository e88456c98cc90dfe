/- Monomials: eight numbers as cells of a value, and how they are walked. No condition. -/
import Derived.Test.YteipiejlljnclaaGreatDoorRCv
set_option linter.unusedVariables false
set_option linter.unusedSimpArgs false
set_option maxRecDepth 10000
set_option maxHeartbeats 4000000
section
namespace Go.Proofs.YteipiejlljnclaaGreatDoor
open Go Go.AL
@[ext] structure Mo where
 l : List Int
 h : l.length = 8
instance : DecidableEq Mo := fun a b => if h : a.l = b.l then .isTrue (Mo.ext h) else .isFalse fun e => h (by rw [e])
def Mo.g (m : Mo) (i : Nat) : Int := m.l.getD i 0
def Mo.set (m : Mo) (i : Nat) (x : Int) : Mo := ⟨m.l.set i x, by rw [List.length_set, m.h]⟩
def Mo.zero : Mo := ⟨[0, 0, 0, 0, 0, 0, 0, 0], rfl⟩
def ic (x : Int) : AV := .sc (.int .i64 x)
def mc (m : Mo) : List AV := m.l.map ic
theorem mc_len (m : Mo) : (mc m).length = 8 := by rw [mc, List.length_map, m.h]
theorem mc_take (m : Mo) (r : List AV) : List.take 8 (mc m ++ r) = mc m := by rw [List.take_append_of_le_length (by rw [mc_len]; exact Nat.le_refl _), List.take_of_length_le (by rw [mc_len]; exact Nat.le_refl _)]
theorem mc_take0 (m : Mo) : List.take 8 (mc m) = mc m := by rw [List.take_of_length_le (by rw [mc_len]; exact Nat.le_refl _)]
theorem mc_drop (m : Mo) (r : List AV) : List.drop 8 (mc m ++ r) = r := by
 rw [List.drop_append, List.drop_eq_nil_of_le (by rw [mc_len]; exact Nat.le_refl _), mc_len]; rfl
theorem mc_drop11 (m : Mo) (x y z : AV) (r : List AV) : List.drop 11 (mc m ++ x :: y :: z :: r) = r := by
 rw [List.drop_append, List.drop_eq_nil_of_le (by rw [mc_len]; decide), mc_len]; rfl
theorem mc_at (m : Mo) (r : List AV) (i : Nat) (h : i < 8) : at_ (mc m ++ r) i = .sc (.int .i64 (m.g i)) := by
 have h2 : i < (mc m).length := by rw [mc_len]; exact h
 have h3 : i < m.l.length := by rw [m.h]; exact h
 simp [at_, mc, List.getD, List.getElem?_append_left, h3, Mo.g, ic]
theorem mc_at0 (m : Mo) (i : Nat) (h : i < 8) : at_ (mc m) i = .sc (.int .i64 (m.g i)) := by
 have := mc_at m [] i h
 rwa [List.append_nil] at this
theorem mc_at8 (m : Mo) (x : AV) (r : List AV) : at_ (mc m ++ x :: r) 8 = x := by
 simp [at_, List.getD, List.getElem?_append_right, mc_len]
theorem mc_at9 (m : Mo) (x y : AV) (r : List AV) : at_ (mc m ++ x :: y :: r) 9 = y := by
 simp [at_, List.getD, List.getElem?_append_right, mc_len]
theorem mc_at10 (m : Mo) (x y z : AV) (r : List AV) : at_ (mc m ++ x :: y :: z :: r) 10 = z := by
 simp [at_, List.getD, List.getElem?_append_right, mc_len]
theorem mc_set (m : Mo) (r : List AV) (i : Nat) (n : Int) (h : i < 8) : (mc m ++ r).set i (.sc (.int .i64 n)) = mc (m.set i n) ++ r := by
 rw [List.set_append_left _ _ (by rw [mc_len]; exact h)]
 simp only [mc, Mo.set, List.map_set, ic]
theorem mc_set0 (m : Mo) (i : Nat) (n : Int) : (mc m).set i (.sc (.int .i64 n)) = mc (m.set i n) := by
 simp only [mc, Mo.set, List.map_set, ic]
theorem mc_zero (r : List AV) : AV.sc (.int .i64 0) :: AV.sc (.int .i64 0) :: AV.sc (.int .i64 0) :: AV.sc (.int .i64 0) :: AV.sc (.int .i64 0) :: AV.sc (.int .i64 0) :: AV.sc (.int .i64 0) :: AV.sc (.int .i64 0) :: r = mc Mo.zero ++ r := rfl
theorem bind_pair {α β : Type} : ∀ (m : RM (α × β)), (m.bind fun y => .ret (y.1, y.2)) = m
 | .ret _ => rfl
 | .slot t k => by simp only [RM.bind]; congr 1; funext v; exact bind_pair (k v)
 | .row r k => by simp only [RM.bind]; congr 1; funext v; exact bind_pair (k v)
 | .req p k => by simp only [RM.bind]; rw [bind_pair k]
 | .any k => by simp only [RM.bind]; congr 1; funext v; exact bind_pair (k v)
 | .call f xs k => by simp only [RM.bind]; congr 1; funext v; exact bind_pair (k v)
 | .fail => rfl
theorem fix_scs (s : List (Nat × Nat)) (r j0 : Nat) : ∀ (l : List Int) (j : Nat) (x : List AV), fixCells s r j0 j (l.map ic ++ x) = (fixCells s r j0 (j + l.length) x).bind fun y => .ret (l.map ic ++ y.1, y.2)
 | [], j, x => by
  simp only [List.map_nil, List.nil_append, List.length_nil, Nat.add_zero]
  exact (bind_pair _).symm
 | a :: l, j, x => by
  have ih := fix_scs s r j0 l (j + 1) x
  simp only [List.map_cons, List.cons_append, ic, fixCells]
  rw [ih, RM.bind_assoc, List.length_cons, show j + 1 + l.length = j + (l.length + 1) by omega]
  rfl
theorem mc_fix (s : List (Nat × Nat)) (r j0 j : Nat) (m : Mo) (x : List AV) : fixCells s r j0 j (mc m ++ x) = (fixCells s r j0 (j + 8) x).bind fun y => .ret (mc m ++ y.1, y.2) := by
 have := fix_scs s r j0 m.l j x
 rwa [m.h] at this
theorem mc_fix0 (s : List (Nat × Nat)) (r j0 j : Nat) (m : Mo) : fixCells s r j0 j (mc m) = .ret (mc m, []) := by
 have := mc_fix s r j0 j m []
 simpa [fixCells, RM.bind] using this
theorem give_scs : ∀ (l : List Int) (x : List AV), giveUpL (l.map ic ++ x) = (giveUpL x).bind fun y => .ret (l.map ic ++ y.1, y.2)
 | [], x => by
  simp only [List.map_nil, List.nil_append]
  exact (bind_pair _).symm
 | a :: l, x => by
  have ih := give_scs l x
  simp only [List.map_cons, List.cons_append, ic, giveUpL, giveUp, RM.bind]
  rw [ih, RM.bind_assoc]
  rfl
theorem mc_give (m : Mo) (x : List AV) : giveUpL (mc m ++ x) = (giveUpL x).bind fun y => .ret (mc m ++ y.1, y.2) := give_scs m.l x
theorem mc_give0 (m : Mo) : giveUpL (mc m) = .ret (mc m, []) := by
 have := mc_give m []
 simpa [giveUpL, RM.bind] using this
theorem canon_scs (s : List (Nat × Nat)) : ∀ (l : List Int) (j : Nat) (x : List AV), canonCells s j (l.map ic ++ x) = l.map ic ++ canonCells s (j + l.length) x
 | [], j, x => rfl
 | a :: l, j, x => by
  have ih := canon_scs s l (j + 1) x
  simp only [List.map_cons, List.cons_append, ic, canonCells, List.length_cons]
  rw [ih, show j + 1 + l.length = j + (l.length + 1) by omega]
theorem mc_canon (s : List (Nat × Nat)) (j : Nat) (m : Mo) (x : List AV) : canonCells s j (mc m ++ x) = mc m ++ canonCells s (j + 8) x := by
 have := canon_scs s m.l j x
 rwa [m.h] at this
theorem mc_canon0 (s : List (Nat × Nat)) (j : Nat) (m : Mo) : canonCells s j (mc m) = mc m := by
 have := mc_canon s j m []
 simpa [canonCells] using this
theorem mc_all (m : Mo) (x : List AV) : ((mc m ++ x).all fun | .agg _ | .tup _ | .junk | .nst | .it => false | _ => true) = x.all fun | .agg _ | .tup _ | .junk | .nst | .it => false | _ => true := by
 rw [List.all_append]
 have : ((mc m).all fun | .agg _ | .tup _ | .junk | .nst | .it => false | _ => true) = true := by
  rw [List.all_eq_true]
  intro a ha
  obtain ⟨n, _, rfl⟩ := List.mem_map.1 ha
  rfl
 rw [this]; rfl
theorem mc_all0 (m : Mo) : ((mc m).all fun | .agg _ | .tup _ | .junk | .nst | .it => false | _ => true) = true := by
 have := mc_all m []
 rwa [List.append_nil] at this
theorem mc_okPart (m : Mo) (x : List AV) : partsOK.okPart (.agg (mc m ++ x)) = partsOK.okPart (.agg x) := mc_all m x
theorem mc_okPart0 (m : Mo) : partsOK.okPart (.agg (mc m)) = true := mc_all0 m
theorem okPart_nil : partsOK.okPart (.agg []) = true := rfl
theorem okPart_cons (v : Value) (l : List AV) : partsOK.okPart (.agg (.sc v :: l)) = partsOK.okPart (.agg l) := rfl
theorem okPart_sl (n : Nat) (xs l : List AV) : partsOK.okPart (.agg (.sl n xs :: l)) = partsOK.okPart (.agg l) := rfl
theorem okPart_hs (p : Pl) (o n : Nat) (l : List AV) : partsOK.okPart (.agg (.hs p o n :: l)) = partsOK.okPart (.agg l) := rfl
theorem mc_keyOK (m : Mo) : keyOK (.arr 8 .i64) (.agg (mc m)) = true := by
 simp only [keyOK, mc_len, Bool.and_eq_true, List.all_eq_true, beq_self_eq_true, true_and]
 intro a ha
 obtain ⟨n, _, rfl⟩ := List.mem_map.1 ha
 rfl
theorem mc_allint (m : Mo) : (mc m).all (intOf1 .i64) = true := by
 rw [List.all_eq_true]
 intro a ha
 obtain ⟨n, _, rfl⟩ := List.mem_map.1 ha
 rfl
theorem keys_scs : ∀ (a b : List Int), keysEq (a.map ic) (b.map ic) = decide (a = b)
 | [], [] => rfl
 | [], _ :: _ => rfl
 | _ :: _, [] => rfl
 | x :: a, y :: b => by
  simp only [List.map_cons, keysEq, keys_scs a b, ic, keyEq1]
  by_cases h : x = y <;> simp [h]
theorem mc_keysEq (a b : Mo) : keysEq (mc a) (mc b) = decide (a = b) := by
 rw [mc, mc, keys_scs]
 exact decide_eq_decide.2 ⟨fun h => Mo.ext h, fun h => by rw [h]⟩
theorem mc_keyEq (a b : Mo) : keyEq (.agg (mc a)) (.agg (mc b)) = decide (a = b) := mc_keysEq a b
theorem clean_scs : ∀ (l : List Int) (x : List AV), cleanL (l.map ic ++ x) = cleanL x
 | [], _ => rfl
 | a :: l, x => by rw [List.map_cons, List.cons_append, cleanL, clean_scs l x]; rfl
theorem mc_clean (m : Mo) (x : List AV) : cleanL (mc m ++ x) = cleanL x := clean_scs m.l x
theorem mc_clean0 (m : Mo) : cleanL (mc m) = true := by have := mc_clean m []; rwa [List.append_nil] at this
theorem ck_scs : ∀ (l : List Int) (y : List AV), cellKeys (l.map ic) y = []
 | [], _ => by cases ‹List AV› <;> rfl
 | a :: l, [] => rfl
 | a :: l, y :: ys => by
  have ih := ck_scs l ys
  simp only [List.map_cons, ic, cellKeys] at ih ⊢
  exact ih
theorem mc_ck0 (m : Mo) (y : List AV) : cellKeys (mc m) y = [] := ck_scs m.l y
theorem Mo.ext_g {a b : Mo} (h : ∀ i, i < 8 → a.g i = b.g i) : a = b := by
 refine Mo.ext (List.ext_getElem (by rw [a.h, b.h]) fun i h1 h2 => ?_)
 have := h i (by rw [a.h] at h1; exact h1)
 simpa [Mo.g, h1, h2] using this
theorem Mo.g_set (m : Mo) (i : Nat) (x : Int) (j : Nat) (h : i < 8) : (m.set i x).g j = if i = j then x else m.g j := by
 have h1 : i < m.l.length := by rw [m.h]; exact h
 by_cases e : i = j
 ·subst e; simp [Mo.g, Mo.set, h1]
 ·simp [Mo.g, Mo.set, e]
theorem Mo.g_zero (i : Nat) : Mo.zero.g i = 0 := by
 unfold Mo.g Mo.zero
 match i with
 | 0 | 1 | 2 | 3 | 4 | 5 | 6 | 7 => rfl
 | i + 8 => rfl
theorem keep_scs (rows : AL.Rows) (rs : List Nat) : ∀ (l : List Int) (x : List AV), keepCells rows rs (l.map ic ++ x) = l.map ic ++ keepCells rows rs x
 | [], _ => rfl
 | a :: l, x => by rw [List.map_cons, List.cons_append, keepCells, keep_scs rows rs l x]; rfl
theorem mc_keep (rows : AL.Rows) (rs : List Nat) (m : Mo) (x : List AV) : keepCells rows rs (mc m ++ x) = mc m ++ keepCells rows rs x := keep_scs rows rs m.l x
theorem mc_keep0 (rows : AL.Rows) (rs : List Nat) (m : Mo) : keepCells rows rs (mc m) = mc m := by have := mc_keep rows rs m []; simpa [keepCells] using this
attribute [go_sem] mc_allint Nat.mul_one mc_len mc_take mc_take0 mc_drop mc_drop11 mc_at mc_at0 mc_at8 mc_at9 mc_at10 mc_set mc_set0 mc_zero mc_fix mc_fix0 mc_give mc_give0 mc_canon mc_canon0 mc_keyOK mc_keysEq mc_keyEq
attribute [go_sem ↓] mc_okPart mc_okPart0 okPart_nil okPart_cons okPart_sl okPart_hs
end Go.Proofs.YteipiejlljnclaaGreatDoor
end
section
namespace Go.Proofs.YteipiejlljnclaaGreatDoor
open Go Go.AL
attribute [local irreducible] run opK opD callK
attribute [local simp] keep keepEnv keepRows keepAV keepPl keepBody keepElems keepElem keepCells lget inL normG mc_keep mc_keep0
@[go_sem] abbrev mdat (m : Mo) : PA := .data (.agg (mc m))
def lgt : List Int → List Int → Bool
 | x :: a, y :: b => if x = y then lgt a b else decide (y < x)
 | _, _ => false
def mgt (a b : Mo) : Bool := lgt a.l b.l
theorem Mo.drop (m : Mo) {i : Nat} (h : i < 8) : m.l.drop i = m.g i :: m.l.drop (i + 1) := by
 rw [List.drop_eq_getElem_cons (by rw [m.h]; exact h)]
 simp [Mo.g, m.h, h]
theorem c_Greater (a b : Mo) : CT 112 [mdat a, mdat b] { val := bv (mgt a b), args := [mdat a, mdat b] } := by
 refine Ctr.intro ⟨Tryz.f112, _, Tryz.call112, Tryz.func112, fold_body (by rfl) (by kernel_rfl), (by simp [Tryz.ntmps112]), (by simp), (by kernel_rfl), ?_⟩
 refine wks ?_
 refine wk0 ?_
 refine run_loop [2, 3, 5] [2, 3] (α := {i : Nat // i ≤ 8 ∧ lgt (a.l.drop i) (b.l.drop i) = mgt a b})
  (fun i => ⟨[(2, .hp ⟨2, 1⟩ 0 0), (3, .hp ⟨3, 1⟩ 0 0), (5, iv .i64 i.1)], [(2, ⟨1, true, true, .cells 8 [.agg (mc a)]⟩), (3, ⟨1, true, true, .cells 8 [.agg (mc b)]⟩)]⟩) (fun i => 8 - i.1) ⟨0, by decide, rfl⟩ (by first | rfl | simp) ?_
 rintro ⟨i, hi, hg⟩
 refine wk0 ?_
 refine condK.dec (fun h => ?_) (fun h => ?_)
 ·rw [a.drop (by omega), b.drop (by omega), lgt] at hg
  refine wk0 ?_
  refine vcalm (by kernel_rfl) ?_
  refine condK.dec (fun h2 => ?_) (fun h2 => ?_)
  ·rw [if_neg h2] at hg
   refine wk0 ?_
   refine vcalm (by kernel_rfl) ?_
   refine wk0 ?_
   exact ⟨by rw [← hg], trivial⟩
  ·rw [if_pos (by omega)] at hg
   refine wk0 ?_
   exact ⟨⟨i + 1, by omega, hg⟩, (by first | rfl | simp), by simp only; omega⟩
 ·have hi8 : i = 8 := by omega
  subst hi8
  refine wk0 ?_
  refine ⟨?_, trivial⟩
  rw [← hg, List.drop_eq_nil_of_le (by rw [a.h]; exact Nat.le_refl _)]
  rfl
def Mo.add (a b : Mo) : Mo := ⟨List.zipWith (· + ·) a.l b.l, by rw [List.length_zipWith, a.h, b.h]; rfl⟩
def Mo.ok (m : Mo) : Prop := ∀ x ∈ m.l, 0 ≤ x ∧ x < 4611686018427387904
theorem Mo.g_add (a b : Mo) (i : Nat) (h : i < 8) : (a.add b).g i = a.g i + b.g i := by
 have h1 : i < a.l.length := by rw [a.h]; exact h
 have h2 : i < b.l.length := by rw [b.h]; exact h
 simp [Mo.g, Mo.add, List.getElem?_zipWith, h1, h2]
theorem Mo.ok.g {m : Mo} (h : m.ok) (i : Nat) : 0 ≤ m.g i ∧ m.g i < 4611686018427387904 := by
 by_cases hi : i < m.l.length
 ·exact h _ (by simp [Mo.g, hi])
 ·simp [Mo.g, hi]
theorem c_times (a b : Mo) (ha : a.ok) (hb : b.ok) : CT 99 [mdat a, mdat b] { val := .agg (mc (a.add b)), args := [mdat a, mdat b] } := by
 refine Ctr.intro ⟨Tryz.f99, _, Tryz.call99, Tryz.func99, fold_body (by rfl) (by kernel_rfl), (by simp [Tryz.ntmps99]), (by simp), (by kernel_rfl), ?_⟩
 refine wks ?_
 refine wk0 ?_
 refine run_loop [2, 3, 4, 6] [2, 3, 4] (α := {s : Nat × Mo // s.1 ≤ 8 ∧ (∀ j, j < s.1 → s.2.g j = a.g j + b.g j) ∧ ∀ j, s.1 ≤ j → s.2.g j = a.g j})
  (fun s => ⟨[(2, .hp ⟨2, 1⟩ 0 0), (3, .hp ⟨3, 1⟩ 0 0), (4, .hp ⟨4, 1⟩ 0 0), (6, iv .i64 s.1.1)], [(2, ⟨1, true, true, .cells 8 [.agg (mc s.1.2)]⟩), (3, ⟨1, true, true, .cells 8 [.agg (mc b)]⟩), (4, ⟨1, true, true, .cells 8 [.agg (mc Mo.zero)]⟩)]⟩) (fun s => 8 - s.1.1) ⟨(0, a), Nat.zero_le _, fun j h => absurd h (Nat.not_lt_zero _), fun _ _ => rfl⟩ (by first | rfl | simp) ?_
 rintro ⟨⟨i, m⟩, hi, hm1, hm2⟩
 simp only at hi hm1 hm2
 refine wk0 ?_
 refine condK.dec (fun h => ?_) (fun h => ?_)
 ·have h1 := ha.g i
  have h2 := hb.g i
  have h3 := hm2 i (Nat.le_refl _)
  have h4 : IntKind.i64.wrap (m.g i + b.g i) = a.g i + b.g i := by rw [h3]; exact w64 (by omega)
  refine wk1 @h4 ?_
  refine vcalm (by kernel_rfl) ?_
  refine wk1 @h4 ?_
  refine ⟨⟨(i + 1, m.set i (a.g i + b.g i)), by omega, fun j hj => ?_, fun j hj => ?_⟩, (by first | rfl | simp), by simp only; omega⟩
  ·simp only at hj ⊢
   rw [Mo.g_set _ _ _ _ (by omega)]
   by_cases e : i = j
   ·subst e; rw [if_pos rfl]
   ·rw [if_neg e, hm1 j (by omega)]
  ·simp only at hj ⊢
   rw [Mo.g_set _ _ _ _ (by omega), if_neg (by omega), hm2 j (by omega)]
 ·have hi8 : i = 8 := by omega
  subst hi8
  refine wk0 ?_
  have e : m = a.add b := Mo.ext_g fun i h => by rw [hm1 i h, Mo.g_add _ _ _ h]
  exact ⟨Or.inl ⟨by rw [e], mc_clean0 _⟩, by rw [mc_ck0]; rfl⟩
end Go.Proofs.YteipiejlljnclaaGreatDoor
end
section
namespace Go.Proofs.YteipiejlljnclaaGreatDoor
abbrev Tm := Mo × Rat
theorem lgt_irrefl : ∀ a, lgt a a = false
 | [] => rfl
 | x :: a => by rw [lgt, if_pos rfl, lgt_irrefl a]
theorem lgt_tri : ∀ {a b : List Int}, a.length = b.length → lgt a b = false → lgt b a = false → a = b
 | [], [], _, _, _ => rfl
 | x :: a, y :: b, hl, h1, h2 => by
  rw [lgt] at h1 h2
  by_cases e : x = y
  ·subst e
   rw [if_pos rfl] at h1 h2
   rw [lgt_tri (by simpa using hl) h1 h2]
  ·rw [if_neg e] at h1
   rw [if_neg (fun h => e h.symm)] at h2
   simp at h1 h2
   omega
theorem lgt_trans : ∀ {a b c : List Int}, lgt a b = true → lgt b c = true → lgt a c = true
 | x :: a, y :: b, z :: c, h1, h2 => by
  rw [lgt] at h1 h2 ⊢
  by_cases e : x = y
  ·subst e
   rw [if_pos rfl] at h1
   by_cases e2 : x = z
   ·rw [if_pos e2] at h2 ⊢; exact lgt_trans h1 h2
   ·rw [if_neg e2] at h2 ⊢; exact h2
  ·rw [if_neg e] at h1
   by_cases e2 : y = z
   ·subst e2; rw [if_neg e]; exact h1
   ·rw [if_neg e2] at h2
    simp at h1 h2
    rw [if_neg (by omega)]
    simp; omega
 | [], _, _, h1, _ => by simp [lgt] at h1
 | _ :: _, [], _, h1, _ => by simp [lgt] at h1
 | _ :: _, _ :: _, [], _, h2 => by simp [lgt] at h2
theorem mgt_irrefl (a : Mo) : mgt a a = false := lgt_irrefl _
theorem mgt_tri {a b : Mo} (h1 : mgt a b = false) (h2 : mgt b a = false) : a = b := Mo.ext (lgt_tri (by rw [a.h, b.h]) h1 h2)
theorem mgt_trans {a b c : Mo} (h1 : mgt a b = true) (h2 : mgt b c = true) : mgt a c = true := lgt_trans h1 h2
theorem mgt_ne {a b : Mo} (h : mgt a b = true) : a ≠ b := fun e => by rw [e, mgt_irrefl] at h; cases h
def L (p : List Tm) (F : Mo → Rat) : Rat := p.foldr (fun t s => t.2 * F t.1 + s) 0
theorem L_nil (F : Mo → Rat) : L [] F = 0 := rfl
theorem L_cons (t : Tm) (p : List Tm) (F : Mo → Rat) : L (t :: p) F = t.2 * F t.1 + L p F := rfl
theorem L_append (p q : List Tm) (F : Mo → Rat) : L (p ++ q) F = L p F + L q F := by
 induction p with
 | nil => rw [List.nil_append, L_nil, Rat.zero_add]
 | cons t p ih => rw [List.cons_append, L_cons, L_cons, ih, Rat.add_assoc]
def ins : List Tm → Tm → List Tm
 | [], t => if t.2 = 0 then [] else [t]
 | s :: l, t => if mgt s.1 t.1 then s :: ins l t else if s.1 = t.1 then (if t.2 + s.2 = 0 then l else (t.1, t.2 + s.2) :: l) else (if t.2 = 0 then s :: l else t :: s :: l)
theorem L_ins (p : List Tm) (t : Tm) (F : Mo → Rat) : L (ins p t) F = L p F + t.2 * F t.1 := by
 induction p with
 | nil =>
  rw [ins]
  by_cases h : t.2 = 0
  ·rw [if_pos h, h, Rat.zero_mul, Rat.add_zero]
  ·rw [if_neg h, L_cons, L_nil, Rat.add_zero, Rat.zero_add]
 | cons s l ih =>
  rw [ins]
  by_cases h1 : mgt s.1 t.1 = true
  ·rw [if_pos h1, L_cons, ih, L_cons, Rat.add_assoc]
  ·rw [if_neg h1]
   by_cases h2 : s.1 = t.1
   ·rw [if_pos h2]
    by_cases h3 : t.2 + s.2 = 0
    ·rw [if_pos h3, L_cons, h2]
     have : t.2 * F t.1 + s.2 * F t.1 = 0 := by rw [← Rat.add_mul, h3, Rat.zero_mul]
     rw [Rat.add_comm (s.2 * F t.1), Rat.add_assoc, Rat.add_comm (s.2 * F t.1), this, Rat.add_zero]
    ·rw [if_neg h3, L_cons, L_cons, h2, Rat.add_mul]
     rw [Rat.add_comm (s.2 * F t.1 + L l F), Rat.add_assoc]
   ·rw [if_neg h2]
    by_cases h3 : t.2 = 0
    ·rw [if_pos h3, h3, Rat.zero_mul, Rat.add_zero]
    ·rw [if_neg h3, L_cons, Rat.add_comm]
def Cn (p : List Tm) : Prop := p.Pairwise (fun a b => mgt a.1 b.1 = true) ∧ ∀ t ∈ p, t.2 ≠ 0
theorem Cn.nil : Cn [] := ⟨.nil, fun _ h => by cases h⟩
theorem Cn.tail {t : Tm} {p : List Tm} (h : Cn (t :: p)) : Cn p := ⟨(List.pairwise_cons.1 h.1).2, fun x hx => h.2 x (.tail _ hx)⟩
theorem ins_low {p : List Tm} {t : Tm} {m : Mo} (hp : ∀ s ∈ p, mgt m s.1 = true) (ht : mgt m t.1 = true) : ∀ s ∈ ins p t, mgt m s.1 = true := by
 induction p with
 | nil =>
  intro s hs
  rw [ins] at hs
  by_cases h : t.2 = 0
  ·rw [if_pos h] at hs; cases hs
  ·rw [if_neg h] at hs; rw [List.mem_singleton.1 hs]; exact ht
 | cons u l ih =>
  have hu := hp u (.head _)
  have ih := ih (fun s hs => hp s (.tail _ hs))
  intro s hs
  rw [ins] at hs
  split at hs
  ·rcases List.mem_cons.1 hs with rfl | hs
   ·exact hu
   ·exact ih s hs
  ·split at hs
   ·split at hs
    ·exact hp s (.tail _ hs)
    ·rcases List.mem_cons.1 hs with rfl | hs
     ·exact ht
     ·exact hp s (.tail _ hs)
   ·split at hs
    ·exact hp s hs
    ·rcases List.mem_cons.1 hs with rfl | hs
     ·exact ht
     ·exact hp s hs
theorem Cn.ins {p : List Tm} (h : Cn p) (t : Tm) : Cn (ins p t) := by
 induction p with
 | nil =>
  rw [Go.Proofs.YteipiejlljnclaaGreatDoor.ins]
  split
  ·exact Cn.nil
  ·rename_i h0
   exact ⟨List.pairwise_singleton _ _, fun x hx => by rw [List.mem_singleton.1 hx]; exact h0⟩
 | cons u l ih =>
  have ih := ih h.tail
  have hu := (List.pairwise_cons.1 h.1).1
  rw [Go.Proofs.YteipiejlljnclaaGreatDoor.ins]
  split
  ·rename_i h1
   exact ⟨List.pairwise_cons.2 ⟨ins_low hu h1, ih.1⟩, fun x hx => by
    rcases List.mem_cons.1 hx with rfl | hx
    ·exact h.2 _ (.head _)
    ·exact ih.2 x hx⟩
  ·rename_i h1
   split
   ·rename_i h2
    split
    ·exact h.tail
    ·rename_i h3
     exact ⟨List.pairwise_cons.2 ⟨fun s hs => by have := hu s hs; rwa [h2] at this, h.tail.1⟩, fun x hx => by
      rcases List.mem_cons.1 hx with rfl | hx
      ·exact h3
      ·exact h.2 x (.tail _ hx)⟩
   ·rename_i h2
    split
    ·exact h
    ·rename_i h3
     have ht : mgt t.1 u.1 = true := by
      cases hh : mgt t.1 u.1
      ·exact absurd (mgt_tri (by simpa using h1) hh) h2
      ·rfl
     exact ⟨List.pairwise_cons.2 ⟨fun s hs => by
      rcases List.mem_cons.1 hs with rfl | hs
      ·exact ht
      ·exact mgt_trans ht (hu s hs), h.1⟩, fun x hx => by
      rcases List.mem_cons.1 hx with rfl | hx
      ·exact h3
      ·exact h.2 x hx⟩
def isM (m x : Mo) : Rat := if x = m then 1 else 0
def co (p : List Tm) (m : Mo) : Rat := L p (isM m)
theorem co_nil (m : Mo) : co [] m = 0 := rfl
theorem co_cons (t : Tm) (p : List Tm) (m : Mo) : co (t :: p) m = (if t.1 = m then t.2 else 0) + co p m := by
 unfold co
 rw [L_cons, isM]
 split
 ·rw [Rat.mul_one]
 ·rw [Rat.mul_zero]
theorem co_low {p : List Tm} {m : Mo} (h : ∀ s ∈ p, s.1 ≠ m) : co p m = 0 := by
 induction p with
 | nil => rfl
 | cons t p ih => rw [co_cons, if_neg (h t (.head _)), Rat.zero_add, ih fun s hs => h s (.tail _ hs)]
theorem Cn.uniq : ∀ {p q : List Tm}, Cn p → Cn q → (∀ m, co p m = co q m) → p = q
 | [], [], _, _, _ => rfl
 | [], u :: q, _, hq, h => by
  have := h u.1
  rw [co_nil, co_cons, if_pos rfl, co_low fun s hs => (mgt_ne ((List.pairwise_cons.1 hq.1).1 s hs)).symm, Rat.add_zero] at this
  exact absurd this.symm (hq.2 u (.head _))
 | t :: p, [], hp, _, h => by
  have := h t.1
  rw [co_nil, co_cons, if_pos rfl, co_low fun s hs => (mgt_ne ((List.pairwise_cons.1 hp.1).1 s hs)).symm, Rat.add_zero] at this
  exact absurd this (hp.2 t (.head _))
 | t :: p, u :: q, hp, hq, h => by
  have hpl := (List.pairwise_cons.1 hp.1).1
  have hql := (List.pairwise_cons.1 hq.1).1
  have hm : t.1 = u.1 := by
   refine mgt_tri ?_ ?_
   ·cases hh : mgt t.1 u.1
    ·rfl
    ·have := h t.1
     rw [co_cons, if_pos rfl, co_low fun s hs => (mgt_ne (hpl s hs)).symm, Rat.add_zero, co_cons, if_neg (mgt_ne hh).symm, Rat.zero_add, co_low fun s hs => (mgt_ne (mgt_trans hh (hql s hs))).symm] at this
     exact absurd this (hp.2 t (.head _))
   ·cases hh : mgt u.1 t.1
    ·rfl
    ·have := h u.1
     rw [co_cons u, if_pos rfl, co_low fun s hs => (mgt_ne (hql s hs)).symm, Rat.add_zero, co_cons, if_neg (mgt_ne hh).symm, Rat.zero_add, co_low fun s hs => (mgt_ne (mgt_trans hh (hpl s hs))).symm] at this
     exact absurd this.symm (hq.2 u (.head _))
  have hc : t.2 = u.2 := by
   have := h t.1
   rw [co_cons, if_pos rfl, co_low fun s hs => (mgt_ne (hpl s hs)).symm, Rat.add_zero, hm, co_cons, if_pos rfl, co_low fun s hs => (mgt_ne (hql s hs)).symm, Rat.add_zero] at this
   exact this
  have htu : t = u := Prod.ext hm hc
  subst htu
  rw [Cn.uniq hp.tail hq.tail fun m => ?_]
  have := h m
  rw [co_cons, co_cons] at this
  have e := congrArg (fun x => -(if t.1 = m then t.2 else 0) + x) this
  simp only [← Rat.add_assoc, Rat.neg_add_cancel, Rat.zero_add] at e
  exact e
def nf (l : List Tm) : List Tm := l.foldl ins []
theorem foldl_ins_L (l p : List Tm) (F : Mo → Rat) : L (l.foldl ins p) F = L p F + L l F := by
 induction l generalizing p with
 | nil => rw [List.foldl_nil, L_nil, Rat.add_zero]
 | cons t l ih => rw [List.foldl_cons, ih, L_ins, L_cons, Rat.add_assoc]
theorem foldl_ins_Cn (l : List Tm) {p : List Tm} (h : Cn p) : Cn (l.foldl ins p) := by
 induction l generalizing p with
 | nil => exact h
 | cons t l ih => exact ih (h.ins t)
theorem nf_L (l : List Tm) (F : Mo → Rat) : L (nf l) F = L l F := by rw [nf, foldl_ins_L, L_nil, Rat.zero_add]
theorem nf_Cn (l : List Tm) : Cn (nf l) := foldl_ins_Cn l Cn.nil
theorem nf_co (l : List Tm) (m : Mo) : co (nf l) m = co l m := nf_L l _
theorem nf_eq {l k : List Tm} (h : ∀ m, co l m = co k m) : nf l = nf k := (nf_Cn l).uniq (nf_Cn k) fun m => by rw [nf_co, nf_co, h m]
theorem Cn.nf {p : List Tm} (h : Cn p) : nf p = p := (nf_Cn p).uniq h (nf_co p)
theorem nf_of {p l : List Tm} (hp : Cn p) (h : ∀ m, co p m = co l m) : p = nf l := hp.uniq (nf_Cn l) fun m => by rw [nf_co, h m]
theorem L_eq {l k : List Tm} (h : ∀ m, co l m = co k m) (F : Mo → Rat) : L l F = L k F := by rw [← nf_L l, ← nf_L k, nf_eq h]
theorem foldl_ins_nf {p : List Tm} (h : Cn p) (l : List Tm) : l.foldl ins p = nf (p ++ l) := nf_of (foldl_ins_Cn l h) fun m => by
 unfold co; rw [foldl_ins_L, L_append]
def padd (p q : List Tm) : List Tm := nf (p ++ q)
def prods (p q : List Tm) : List Tm := p.flatMap fun s => q.map fun t => (s.1.add t.1, s.2 * t.2)
def pmul (p q : List Tm) : List Tm := nf (prods p q)
theorem L_smul (c : Rat) (q : List Tm) (F : Mo → Rat) : L (q.map fun t => (t.1, c * t.2)) F = c * L q F := by
 induction q with
 | nil => rw [List.map_nil, L_nil, Rat.mul_zero]
 | cons t q ih => rw [List.map_cons, L_cons, ih, L_cons, Rat.mul_add, Rat.mul_assoc]
theorem L_mulc (c : Rat) (q : List Tm) (F : Mo → Rat) : L q (fun m => c * F m) = c * L q F := by
 induction q with
 | nil => rw [L_nil, L_nil, Rat.mul_zero]
 | cons t q ih => rw [L_cons, ih, L_cons, Rat.mul_add, ← Rat.mul_assoc, Rat.mul_comm t.2, Rat.mul_assoc]
theorem L_row (s : Tm) (q : List Tm) (F : Mo → Rat) : L (q.map fun t => (s.1.add t.1, s.2 * t.2)) F = s.2 * L q (fun b => F (s.1.add b)) := by
 induction q with
 | nil => rw [List.map_nil, L_nil, L_nil, Rat.mul_zero]
 | cons t q ih => rw [List.map_cons, L_cons, ih, L_cons, Rat.mul_add, Rat.mul_assoc]
theorem L_prods (p q : List Tm) (F : Mo → Rat) : L (prods p q) F = L p fun a => L q fun b => F (a.add b) := by
 induction p with
 | nil => rfl
 | cons s p ih => rw [prods, List.flatMap_cons, L_append, L_row, L_cons]; congr 1
theorem pmul_L (p q : List Tm) (F : Mo → Rat) : L (pmul p q) F = L p fun a => L q fun b => F (a.add b) := by rw [pmul, nf_L, L_prods]
theorem padd_L (p q : List Tm) (F : Mo → Rat) : L (padd p q) F = L p F + L q F := by rw [padd, nf_L, L_append]
theorem padd_Cn (p q : List Tm) : Cn (padd p q) := nf_Cn _
theorem pmul_Cn (p q : List Tm) : Cn (pmul p q) := nf_Cn _
theorem Cn.ext {p q : List Tm} (hp : Cn p) (hq : Cn q) (h : ∀ F, L p F = L q F) : p = q := hp.uniq hq fun m => h _
theorem Mo.add_comm (a b : Mo) : a.add b = b.add a := Mo.ext_g fun i h => by rw [Mo.g_add _ _ _ h, Mo.g_add _ _ _ h, Int.add_comm]
theorem Mo.add_assoc (a b c : Mo) : (a.add b).add c = a.add (b.add c) := Mo.ext_g fun i h => by rw [Mo.g_add _ _ _ h, Mo.g_add _ _ _ h, Mo.g_add _ _ _ h, Mo.g_add _ _ _ h, Int.add_assoc]
theorem Mo.add_zero (a : Mo) : a.add Mo.zero = a := Mo.ext_g fun i h => by rw [Mo.g_add _ _ _ h, Mo.g_zero, Int.add_zero]
def pone : List Tm := [(Mo.zero, 1)]
def pconst (r : Rat) : List Tm := if r = 0 then [] else [(Mo.zero, r)]
theorem pone_Cn : Cn pone := ⟨List.pairwise_singleton _ _, fun x hx => by rw [List.mem_singleton.1 hx]; decide⟩
theorem pconst_Cn (r : Rat) : Cn (pconst r) := by
 unfold pconst
 split
 ·exact Cn.nil
 ·rename_i h; exact ⟨List.pairwise_singleton _ _, fun x hx => by rw [List.mem_singleton.1 hx]; exact h⟩
theorem pconst_L (r : Rat) (F : Mo → Rat) : L (pconst r) F = r * F Mo.zero := by
 unfold pconst
 split
 ·rename_i h; rw [h, L_nil, Rat.zero_mul]
 ·rw [L_cons, L_nil, Rat.add_zero]
theorem L_add (p : List Tm) (F G : Mo → Rat) : (L p fun a => F a + G a) = L p F + L p G := by
 induction p with
 | nil => rw [L_nil, L_nil, L_nil, Rat.add_zero]
 | cons t p ih => rw [L_cons, L_cons, L_cons, ih]; grind
theorem padd_nil {p : List Tm} (hp : Cn p) : padd p [] = p := by rw [padd, List.append_nil, hp.nf]
theorem nil_padd {p : List Tm} (hp : Cn p) : padd [] p = p := by rw [padd, List.nil_append, hp.nf]
theorem pmul_nil (p : List Tm) : pmul p [] = [] := (pmul_Cn _ _).ext Cn.nil fun F => by
 rw [pmul_L]
 simp only [L_nil]
 induction p with
 | nil => rfl
 | cons t p ih => rw [L_cons, Rat.mul_zero, Rat.zero_add]; exact ih
end Go.Proofs.YteipiejlljnclaaGreatDoor
end
section
namespace Go.Proofs.YteipiejlljnclaaGreatDoor
open Go Go.AL
def qc (q : Rat) : List AV := [bv (decide (q.num < 0)), .sl 1 (u32s (limbs q.num.natAbs)), .sl 1 (u32s (limbs q.den))]
def tc (t : Tm) : AV := .agg (mc t.1 ++ qc t.2)
def ps (p : List Tm) : List AV := p.map tc
@[go_sem] abbrev pdat (p : List Tm) : PA := .data (.sl 11 (ps p))
@[go_sem] abbrev tdat (t : Tm) : PA := .data (tc t)
def gp (p : List Tm) (i : Nat) : Tm := p.getD i (Mo.zero, 0)
theorem ps_len (p : List Tm) : (ps p).length = p.length := by simp [ps]
theorem ps_at {p : List Tm} {i : Nat} (h : i < p.length) : at_ (ps p) i = .agg (mc (gp p i).1 ++ [bv (decide ((gp p i).2.num < 0)), .sl 1 (u32s (limbs (gp p i).2.num.natAbs)), .sl 1 (u32s (limbs (gp p i).2.den))]) := by
 simp [at_, ps, gp, List.getD, h, tc, qc]
theorem ps_take (p : List Tm) (n : Nat) : (ps p).take n = ps (p.take n) := by simp [ps]
theorem ps_drop (p : List Tm) (n : Nat) : (ps p).drop n = ps (p.drop n) := by simp [ps]
theorem ps_append (p q : List Tm) : ps p ++ ps q = ps (p ++ q) := by simp [ps]
theorem ps_cons (m : Mo) (q : Rat) (p : List Tm) : AV.agg (mc m ++ [bv (decide (q.num < 0)), .sl 1 (u32s (limbs q.num.natAbs)), .sl 1 (u32s (limbs q.den))]) :: ps p = ps ((m, q) :: p) := rfl
theorem ps_set (p : List Tm) (i : Nat) (m : Mo) (q : Rat) : (ps p).set i (AV.agg (mc m ++ [bv (decide (q.num < 0)), .sl 1 (u32s (limbs q.num.natAbs)), .sl 1 (u32s (limbs q.den))])) = ps (p.set i (m, q)) := by simp [ps, List.map_set, tc, qc]
theorem ps_nil : ps [] = [] := rfl
theorem rep1 {α : Type} (x : α) : List.replicate 1 x = [x] := rfl
theorem ps_app_one (p : List Tm) (m : Mo) (q : Rat) : ps p ++ [AV.agg (mc m ++ [bv (decide (q.num < 0)), .sl 1 (u32s (limbs q.num.natAbs)), .sl 1 (u32s (limbs q.den))])] = ps (p ++ [(m, q)]) := by simp [ps, tc, qc]
attribute [go_sem] rep1 List.take_length List.take_nil ps_len ps_at ps_take ps_drop ps_append ps_cons ps_app_one ps_set tc qc
theorem gp_mem {p : List Tm} {i : Nat} (h : i < p.length) : gp p i ∈ p := by
 simp [gp, List.getD, h]
theorem gp_drop {p : List Tm} {i : Nat} (h : i < p.length) : p.drop i = gp p i :: p.drop (i + 1) := by
 rw [List.drop_eq_getElem_cons h]; simp [gp, List.getD, h]
theorem gp_take {p : List Tm} {i : Nat} (h : i < p.length) : p.take (i + 1) = p.take i ++ [gp p i] := by
 rw [List.take_succ_eq_append_getElem h]; simp [gp, List.getD, h]
def sc (D : Nat) (c : Rat) : Int := c.num * (D / c.den : Nat)
theorem sc_spec {D : Nat} (hD : 0 < D) {c : Rat} (h : c.den ∣ D) : c = mkRat (sc D c) D := by
 obtain ⟨k, rfl⟩ := h
 have hk : 0 < k := Nat.pos_of_mul_pos_left hD |> fun _ => Nat.pos_of_ne_zero fun e => by rw [e, Nat.mul_zero] at hD; exact absurd hD (Nat.lt_irrefl 0)
 have hd := c.den_pos
 unfold sc
 rw [Nat.mul_div_cancel_left _ hd]
 conv => lhs; rw [← Rat.mkRat_self c]
 rw [Rat.mkRat_eq_iff (by omega) (by have := Nat.mul_pos hd hk; omega)]
 rw [Int.natCast_mul]
 grind
theorem mk_den (x : Int) (D : Nat) (hD : 0 < D) : (mkRat x D).den ∣ D := by
 rw [Rat.den_mkRat, if_neg (by omega)]
 exact Nat.div_dvd_of_dvd (Nat.gcd_dvd_left _ _)
theorem mk_inj {x y : Int} {D : Nat} (hD : 0 < D) (h : mkRat x D = mkRat y D) : x = y := by
 rw [Rat.mkRat_eq_iff (by omega) (by omega)] at h
 exact Int.eq_of_mul_eq_mul_right (by omega) h
theorem sc_mk (x : Int) {D : Nat} (hD : 0 < D) : sc D (mkRat x D) = x := (mk_inj hD (sc_spec hD (mk_den x D hD))).symm
theorem mk_add (x y : Int) {D : Nat} (hD : 0 < D) : mkRat x D + mkRat y D = mkRat (x + y) D := by
 rw [Rat.mkRat_add_mkRat _ _ (by omega) (by omega), Rat.mkRat_eq_iff (by have := Nat.mul_pos hD hD; omega) (by omega), Int.natCast_mul]
 grind
theorem den_add {D : Nat} (hD : 0 < D) {a b : Rat} (ha : a.den ∣ D) (hb : b.den ∣ D) : (a + b).den ∣ D := by
 rw [sc_spec hD ha, sc_spec hD hb, mk_add _ _ hD]; exact mk_den _ _ hD
theorem sc_add {D : Nat} (hD : 0 < D) {a b : Rat} (ha : a.den ∣ D) (hb : b.den ∣ D) : sc D (a + b) = sc D a + sc D b := by
 conv => lhs; rw [sc_spec hD ha, sc_spec hD hb, mk_add _ _ hD]
 exact sc_mk _ hD
theorem den_mul {D E : Nat} (hD : 0 < D) (hE : 0 < E) {a b : Rat} (ha : a.den ∣ D) (hb : b.den ∣ E) : (a * b).den ∣ D * E := by
 rw [sc_spec hD ha, sc_spec hE hb, Rat.mkRat_mul_mkRat]; exact mk_den _ _ (Nat.mul_pos hD hE)
theorem sc_mul {D E : Nat} (hD : 0 < D) (hE : 0 < E) {a b : Rat} (ha : a.den ∣ D) (hb : b.den ∣ E) : sc (D * E) (a * b) = sc D a * sc E b := by
 conv => lhs; rw [sc_spec hD ha, sc_spec hE hb, Rat.mkRat_mul_mkRat]
 exact sc_mk _ (Nat.mul_pos hD hE)
def nrm (D : Nat) : List Tm → Nat
 | [] => 0
 | t :: p => (sc D t.2).natAbs + nrm D p
theorem nrm_append (D : Nat) : ∀ (p q : List Tm), nrm D (p ++ q) = nrm D p + nrm D q
 | [], q => by simp [nrm]
 | t :: p, q => by simp only [List.cons_append, nrm, nrm_append D p q]; omega
theorem nrm_mem {D : Nat} : ∀ {p : List Tm} {t : Tm}, t ∈ p → (sc D t.2).natAbs ≤ nrm D p
 | _ :: _, _, .head _ => Nat.le_add_right _ _
 | _ :: _, _, .tail _ h => Nat.le_trans (nrm_mem h) (Nat.le_add_left _ _)
structure PB (D M : Nat) (p : List Tm) : Prop where
 pos : 0 < D
 den : ∀ t ∈ p, t.2.den ∣ D
 le : nrm D p ≤ M
theorem PB.mono {D M M' : Nat} {p : List Tm} (h : PB D M p) (hm : M ≤ M') : PB D M' p := ⟨h.pos, h.den, Nat.le_trans h.le hm⟩
theorem PB.nil {D M : Nat} (hD : 0 < D) : PB D M [] := ⟨hD, fun _ h => by (cases h), Nat.zero_le _⟩
theorem PB.one {D : Nat} {t : Tm} (hD : 0 < D) (h : t.2.den ∣ D) : PB D (sc D t.2).natAbs [t] := ⟨hD, fun x hx => by rw [List.mem_singleton.1 hx]; exact h, by simp [nrm]⟩
theorem PB.append {D M M' : Nat} {p q : List Tm} (h : PB D M p) (h' : PB D M' q) : PB D (M + M') (p ++ q) := ⟨h.pos, fun t ht => (List.mem_append.1 ht).elim (h.den t) (h'.den t), by rw [nrm_append]; have := h.le; have := h'.le; omega⟩
theorem nrm_ins {D : Nat} (hD : 0 < D) {t : Tm} (ht : t.2.den ∣ D) : ∀ {p : List Tm}, (∀ s ∈ p, s.2.den ∣ D) → nrm D (ins p t) ≤ nrm D p + (sc D t.2).natAbs ∧ ∀ s ∈ ins p t, s.2.den ∣ D
 | [], _ => by
  rw [ins]
  split
  ·exact ⟨Nat.zero_le _, fun _ h => by (cases h)⟩
  ·exact ⟨by simp [nrm], fun s hs => by rw [List.mem_singleton.1 hs]; exact ht⟩
 | s :: l, h => by
  have hs := h s (.head _)
  obtain ⟨i1, i2⟩ := nrm_ins hD ht (p := l) fun s hs => h s (.tail _ hs)
  rw [ins]
  split
  ·exact ⟨by simp only [nrm]; omega, fun x hx => by
    rcases List.mem_cons.1 hx with rfl | hx
    ·exact hs
    ·exact i2 x hx⟩
  ·split
   ·split
    ·exact ⟨by simp only [nrm]; omega, fun x hx => h x (.tail _ hx)⟩
    ·refine ⟨?_, fun x hx => ?_⟩
     ·simp only [nrm, sc_add hD ht hs]
      have := Int.natAbs_add_le (sc D t.2) (sc D s.2)
      omega
     ·rcases List.mem_cons.1 hx with rfl | hx
      ·exact den_add hD ht hs
      ·exact h x (.tail _ hx)
   ·split
    ·exact ⟨by omega, h⟩
    ·exact ⟨by simp only [nrm]; omega, fun x hx => by
      rcases List.mem_cons.1 hx with rfl | hx
      ·exact ht
      ·exact h x hx⟩
theorem PB.ins {D M : Nat} {p : List Tm} {t : Tm} (h : PB D M p) (ht : t.2.den ∣ D) : PB D (M + (sc D t.2).natAbs) (ins p t) := by
 obtain ⟨h1, h2⟩ := nrm_ins h.pos ht h.den
 exact ⟨h.pos, h2, by have := h.le; omega⟩
theorem PB.foldl {D M M' : Nat} {p l : List Tm} (h : PB D M p) (hl : PB D M' l) : PB D (M + M') (l.foldl Go.Proofs.YteipiejlljnclaaGreatDoor.ins p) := by
 induction l generalizing p M M' with
 | nil => exact h.mono (Nat.le_add_right _ _)
 | cons t l ih =>
  have h1 := hl.le
  simp only [nrm] at h1
  have := ih (h.ins (hl.den t (.head _))) (M' := M' - (sc D t.2).natAbs) ⟨hl.pos, fun s hs => hl.den s (.tail _ hs), by omega⟩
  exact this.mono (by omega)
theorem PB.nf {D M : Nat} {l : List Tm} (h : PB D M l) : PB D M (nf l) := by have := (PB.nil (M := 0) h.pos).foldl h; rwa [Nat.zero_add] at this
theorem PB.padd {D M M' : Nat} {p q : List Tm} (h : PB D M p) (h' : PB D M' q) : PB D (M + M') (padd p q) := (h.append h').nf
theorem nrm_row {D E : Nat} (hD : 0 < D) (hE : 0 < E) (s : Tm) (hs : s.2.den ∣ D) : ∀ {q : List Tm}, (∀ t ∈ q, t.2.den ∣ E) → nrm (D * E) (q.map fun t => (s.1.add t.1, s.2 * t.2)) = (sc D s.2).natAbs * nrm E q
 | [], _ => rfl
 | t :: q, h => by
  simp only [List.map_cons, nrm, nrm_row hD hE s hs (q := q) fun t ht => h t (.tail _ ht), sc_mul hD hE hs (h t (.head _)), Int.natAbs_mul, Nat.mul_add]
theorem PB.prods {D E M N : Nat} {p q : List Tm} (h : PB D M p) (h' : PB E N q) : PB (D * E) (M * N) (prods p q) := by
 have key : ∀ {p : List Tm}, (∀ t ∈ p, t.2.den ∣ D) → nrm (D * E) (Go.Proofs.YteipiejlljnclaaGreatDoor.prods p q) = nrm D p * nrm E q ∧ ∀ t ∈ Go.Proofs.YteipiejlljnclaaGreatDoor.prods p q, t.2.den ∣ D * E := by
  intro p
  induction p with
  | nil => intro _; exact ⟨by simp [Go.Proofs.YteipiejlljnclaaGreatDoor.prods, nrm], fun t ht => by simp [Go.Proofs.YteipiejlljnclaaGreatDoor.prods] at ht⟩
  | cons s p ih =>
   intro hp
   obtain ⟨i1, i2⟩ := ih fun t ht => hp t (.tail _ ht)
   have hs := hp s (.head _)
   refine ⟨?_, fun t ht => ?_⟩
   ·have e : Go.Proofs.YteipiejlljnclaaGreatDoor.prods (s :: p) q = (q.map fun t => (s.1.add t.1, s.2 * t.2)) ++ Go.Proofs.YteipiejlljnclaaGreatDoor.prods p q := by simp [Go.Proofs.YteipiejlljnclaaGreatDoor.prods]
    rw [e, nrm_append, i1, nrm_row h.pos h'.pos s hs h'.den, nrm, Nat.add_mul]
   ·simp only [Go.Proofs.YteipiejlljnclaaGreatDoor.prods, List.flatMap_cons, List.mem_append] at ht
    rcases ht with ht | ht
    ·obtain ⟨u, hu, rfl⟩ := List.mem_map.1 ht
     exact den_mul h.pos h'.pos hs (h'.den u hu)
    ·exact i2 t ht
 obtain ⟨k1, k2⟩ := key h.den
 exact ⟨Nat.mul_pos h.pos h'.pos, k2, by rw [k1]; exact Nat.mul_le_mul h.le h'.le⟩
theorem PB.pmul {D E M N : Nat} {p q : List Tm} (h : PB D M p) (h' : PB E N q) : PB (D * E) (M * N) (pmul p q) := (h.prods h').nf
def Fit (D M : Nat) : Prop := Ql (limbs D) ∧ Ql (limbs M)
theorem Qz.of {D : Nat} {c : Rat} (hD : 0 < D) (h : c.den ∣ D) (h1 : Ql (limbs D)) (h2 : Ql (limbs (sc D c).natAbs)) : Qz c := by
 refine ⟨h2.le ?_, h1.le (Nat.le_of_dvd hD h)⟩
 unfold sc
 rw [Int.natAbs_mul, Int.natAbs_natCast]
 have : 0 < D / c.den := Nat.div_pos (Nat.le_of_dvd hD h) c.den_pos
 exact Nat.le_mul_of_pos_right _ this
theorem PB.qz {D M : Nat} {p : List Tm} (h : PB D M p) (hf : Fit D M) {t : Tm} (ht : t ∈ p) : Qz t.2 := Qz.of h.pos (h.den t ht) hf.1 (hf.2.le (Nat.le_trans (nrm_mem ht) h.le))
end Go.Proofs.YteipiejlljnclaaGreatDoor
end
