/- Small numbers as text (strconv): what AppendInt appends for a number between -100 and 100. Conditions stand in each. -/
import Derived.Test.YteipiejlljnclaaGreatDoorRGa
import Derived.Test.YteipiejlljnclaaGreatDoorRGd
set_option linter.unusedVariables false
set_option linter.unusedSimpArgs false
set_option maxRecDepth 10000
set_option maxHeartbeats 16000000
section
namespace Go.Proofs.YteipiejlljnclaaGreatDoor
open Go Go.AL
attribute [local irreducible] run opK opD callK
def dig (n : Nat) : List UInt8 := if n < 10 then [UInt8.ofNat (48 + n)] else [UInt8.ofNat (48 + n / 10), UInt8.ofNat (48 + n % 10)]
def decB (n : Int) : List UInt8 := if n < 0 then 45 :: dig (-n).toNat else dig n.toNat
def bs (l : List UInt8) : List AV := l.map fun b => .sc (.int .u8 b.toNat)
theorem bs_len (l : List UInt8) : (bs l).length = l.length := by simp [bs]
theorem bs_fold (l : List UInt8) : l.map (fun b => AV.sc (Value.int IntKind.u8 (b.toNat : Int))) = bs l := rfl
theorem c_small (n : Nat) (h' : n < 100) : CT 304 [.data (iv .i64 (n : Nat))] { val := .sc (.string ⟨(dig n).toArray⟩), args := [.data (iv .i64 (n : Nat))] } := by
 refine Ctr.intro ⟨Tryz.f304, _, Tryz.call304, Tryz.func304, fold_body (by rfl) (by kernel_rfl), (by simp [Tryz.ntmps304]), (by simp), (by kernel_rfl), ?_⟩
 refine wks ?_
 refine wk0 ?_
 refine condK.dec (fun h => ?_) (fun h => ?_)
 ·refine wk0 ?_
  refine ⟨?_, trivial⟩
  have key : ∀ n, n < 10 → (⟨#[48, 49, 50, 51, 52, 53, 54, 55, 56, 57, 97, 98, 99, 100, 101, 102, 103, 104, 105, 106, 107, 108, 109, 110, 111, 112, 113, 114, 115, 116, 117, 118, 119, 120, 121, 122]⟩ : ByteArray).extract n (n + 1) = ⟨(dig n).toArray⟩ := by decide +kernel
  rw [key n (by omega)]
 ·have e1 : ((n : Int) * 2).toNat = n * 2 := by omega
  have e2 : ((n : Int) * 2 + 2).toNat = n * 2 + 2 := by omega
  refine wk2 @e1 @e2 ?_
  generalize hL : (List.append (List.append _ _) _ : List UInt8) = L
  have h200 : L.length = 200 := by rw [← hL]; rfl
  have key : ∀ n, n < 100 → 10 ≤ n → (⟨L.toArray⟩ : ByteArray).extract (n * 2) (n * 2 + 2) = ⟨(dig n).toArray⟩ := by rw [← hL]; decide +kernel
  refine ⟨by simp only [VC]; omega, ?_, trivial⟩
  rw [key n h' (by omega)]
theorem dig_len (n : Nat) : (dig n).length ≤ 2 := by unfold dig; split <;> simp
theorem c_AppUint (xs : List AV) (n : Nat) (h : n < 100) (hx : xs.length < 1000000000) : CT 281 [.slc (.cells 1 xs), .data (iv .u64 (n : Nat)), .data (iv .i64 10)] { val := .hs ⟨0, 0⟩ 0 (xs.length + (dig n).length), new := [.slc (.cells 1 (xs ++ bs (dig n)))], args := [.lost, .data (iv .u64 (n : Nat)), .data (iv .i64 10)] } := by
 have hc := c_small n h
 have hd := dig_len n
 refine Ctr.intro ⟨Tryz.f281, _, Tryz.call281, Tryz.func281, fold_body (by rfl) (by kernel_rfl), (by simp [Tryz.ntmps281]), (by simp), (by kernel_rfl), ?_⟩
 refine wks ?_
 refine wk0 ?_
 refine callI (hc) ?_
 refine wk0 ?_
 simp only [bs_fold, bs_len, VC]
 refine ⟨⟨Nat.le_refl _, by omega⟩, ⟨?_, Nat.le_refl _, List.take_of_length_le (by simp [bs_len])⟩, by simp⟩
 first | trivial | rfl
theorem decB_len (n : Int) : (decB n).length ≤ 3 := by
 unfold decB
 split
 ·have := dig_len (-n).toNat; simp only [List.length_cons]; omega
 ·have := dig_len n.toNat; omega
theorem c_AppInt0 (xs : List AV) (n : Int) (h : -100 < n ∧ n < 100) (hx : xs.length < 100000000) : CT 231 [.slc (.cells 1 xs), .data (iv .i64 n), .data (iv .i64 10)] { val := .hs ⟨0, 0⟩ 0 (xs.length + (decB n).length), new := [.slc (.cells 1 (xs ++ bs (decB n)))], args := [.lost, .data (iv .i64 n), .data (iv .i64 10)] } := by
 refine Ctr.intro ⟨Tryz.f231, _, Tryz.call231, Tryz.func231, fold_body (by rfl) (by kernel_rfl), (by simp [Tryz.ntmps231]), (by simp), (by kernel_rfl), ?_⟩
 refine wks ?_
 refine wk0 ?_
 refine condK.dec (fun hn => ?_) (fun hn => ?_)
 ·have e1 : IntKind.u64.wrap n = 18446744073709551616 + n := by rw [IntKind.wrap]; simp [IntKind.bits, IntKind.signed]; omega
  have e2 : IntKind.u64.wrap (0 - (18446744073709551616 + n)) = (((-n).toNat : Nat) : Int) := by rw [IntKind.wrap]; simp [IntKind.bits, IntKind.signed]; omega
  have e3 : decB n = 45 :: dig (-n).toNat := by unfold decB; rw [if_pos hn]
  have hc := c_AppUint (xs ++ [.sc (.int .u8 45)]) (-n).toNat (by omega) (by simp; omega)
  have hd := dig_len (-n).toNat
  have e4 : (xs ++ [AV.sc (Value.int IntKind.u8 45)]).take (xs.length + 1) = xs ++ [AV.sc (Value.int IntKind.u8 45)] := List.take_of_length_le (by simp)
  have e5 : xs ++ [AV.sc (Value.int IntKind.u8 45)] ++ bs (dig (-n).toNat) = xs ++ bs (decB n) := by rw [e3, List.append_assoc]; rfl
  have e6 : (xs ++ [AV.sc (Value.int IntKind.u8 45)]).length + (dig (-n).toNat).length = xs.length + (decB n).length := by rw [e3]; simp; omega
  rw [e5, e6] at hc
  refine wk3 @e1 @e2 @e4 ?_
  refine callI (hc) ?_
  refine wk0 ?_
  exact ⟨⟨by rw [bs_len]; exact Nat.le_refl _, List.take_of_length_le (by simp [bs_len])⟩, by simp [VC]⟩
 ·have e1 : IntKind.u64.wrap n = ((n.toNat : Nat) : Int) := by rw [IntKind.wrap]; simp [IntKind.bits, IntKind.signed]; omega
  have e3 : decB n = dig n.toNat := by unfold decB; rw [if_neg hn]
  have hc := c_AppUint xs n.toNat (by omega) (by omega)
  refine wk2 @e1 @List.take_length.{0} ?_
  refine callI (hc) ?_
  refine wk1 @e3 ?_
  exact ⟨⟨by rw [bs_len]; exact Nat.le_refl _, List.take_of_length_le (by simp [bs_len])⟩, by simp [VC]⟩
theorem c_AppInt (xs : List AV) (n : Int) (h : -100 < n ∧ n < 100) (hx : xs.length < 100000000) : CT 182 [.slc (.cells 1 xs), .data (iv .i64 n), .data (iv .i64 10)] { val := .hs ⟨0, 0⟩ 0 (xs.length + (decB n).length), new := [.slc (.cells 1 (xs ++ bs (decB n)))], args := [.lost, .data (iv .i64 n), .data (iv .i64 10)] } := by
 have hc := c_AppInt0 xs n h hx
 refine Ctr.intro ⟨Tryz.f182, _, Tryz.call182, Tryz.func182, fold_body (by rfl) (by kernel_rfl), (by simp [Tryz.ntmps182]), (by simp), (by kernel_rfl), ?_⟩
 refine wks ?_
 refine wk1 @List.take_length.{0} ?_
 refine callI (hc) ?_
 refine wk0 ?_
 exact ⟨⟨by rw [bs_len]; exact Nat.le_refl _, List.take_of_length_le (by simp [bs_len])⟩, by simp [VC]⟩
def kys (l : List Int) : List UInt8 := l.flatMap fun n => 32 :: decB n
def key (n : Nd) : List UInt8 := decB n.site ++ kys (n.value :: n.kids)
theorem dig_no32 (n : Nat) (h : n < 100) : 32 ∉ dig n := by
 have : ∀ n, n < 100 → 32 ∉ dig n := by decide +kernel
 exact this n h
theorem dig_inj {a b : Nat} (ha : a < 100) (hb : b < 100) (h : dig a = dig b) : a = b := by
 have : ∀ a, a < 100 → ∀ b, b < 100 → dig a = dig b → a = b := by decide +kernel
 exact this a ha b hb h
theorem dig_no45 (n : Nat) (h : n < 100) : (dig n).head? ≠ some 45 := by
 have : ∀ n, n < 100 → (dig n).head? ≠ some 45 := by decide +kernel
 exact this n h
def sml (n : Int) : Prop := -100 < n ∧ n < 100
theorem decB_no32 {n : Int} (h : sml n) : 32 ∉ decB n := by
 unfold decB
 split
 ·intro hm
  rcases List.mem_cons.mp hm with h1 | h1
  ·cases h1
  ·exact dig_no32 _ (by have := h.1; omega) h1
 ·exact dig_no32 _ (by have := h.2; omega)
theorem decB_inj {a b : Int} (ha : sml a) (hb : sml b) (h : decB a = decB b) : a = b := by
 have ha1 := ha.1; have ha2 := ha.2; have hb1 := hb.1; have hb2 := hb.2
 unfold decB at h
 split at h <;> split at h
 ·have := dig_inj (by omega) (by omega) (List.cons.inj h).2; omega
 ·exact absurd (by rw [← h]; rfl) (dig_no45 b.toNat (by omega))
 ·exact absurd (by rw [h]; rfl) (dig_no45 a.toNat (by omega))
 ·have := dig_inj (by omega) (by omega) h; omega
theorem split32 : ∀ {a b x y : List UInt8}, 32 ∉ a → 32 ∉ b → (x = [] ∨ x.head? = some 32) → (y = [] ∨ y.head? = some 32) → a ++ x = b ++ y → a = b ∧ x = y
 | [], [], x, y, _, _, _, _, h => ⟨rfl, h⟩
 | [], c :: b, x, y, _, hb, hx, _, h => by
  rcases hx with rfl | hx
  ·simp at h
  ·rw [List.nil_append] at h; rw [h] at hx; simp at hx; exact absurd (by rw [hx]; exact .head _) hb
 | c :: a, [], x, y, ha, _, _, hy, h => by
  rcases hy with rfl | hy
  ·simp at h
  ·rw [List.nil_append] at h; rw [← h] at hy; simp at hy; exact absurd (by rw [hy]; exact .head _) ha
 | c :: a, d :: b, x, y, ha, hb, hx, hy, h => by
  simp only [List.cons_append, List.cons.injEq] at h
  have := split32 (fun hm => ha (.tail _ hm)) (fun hm => hb (.tail _ hm)) hx hy h.2
  exact ⟨by rw [h.1, this.1], this.2⟩
theorem kys_head (l : List Int) : kys l = [] ∨ (kys l).head? = some 32 := by
 cases l with
 | nil => exact .inl rfl
 | cons a l => exact .inr rfl
theorem kys_inj : ∀ {a b : List Int}, (∀ x ∈ a, sml x) → (∀ x ∈ b, sml x) → kys a = kys b → a = b
 | [], [], _, _, _ => rfl
 | [], y :: b, _, _, h => by simp [kys] at h
 | x :: a, [], _, _, h => by simp [kys] at h
 | x :: a, y :: b, ha, hb, h => by
  have h' : decB x ++ kys a = decB y ++ kys b := by
   have : (32 :: (decB x ++ kys a)) = 32 :: (decB y ++ kys b) := by simpa [kys] using h
   exact (List.cons.inj this).2
  obtain ⟨h1, h2⟩ := split32 (decB_no32 (ha x (by simp))) (decB_no32 (hb y (by simp))) (kys_head a) (kys_head b) h'
  rw [decB_inj (ha x (by simp)) (hb y (by simp)) h1, kys_inj (fun z hz => ha z (by simp [hz])) (fun z hz => hb z (by simp [hz])) h2]
structure Sml (n : Nd) : Prop where
 s : sml n.site
 v : sml n.value
 k : ∀ x ∈ n.kids, sml x
theorem key_inj {a b : Nd} (ha : Sml a) (hb : Sml b) (h : key a = key b) : a = b := by
 obtain ⟨h1, h2⟩ := split32 (decB_no32 ha.s) (decB_no32 hb.s) (kys_head _) (kys_head _) h
 have h3 := kys_inj (a := a.value :: a.kids) (b := b.value :: b.kids) (fun x hx => by
  rcases List.mem_cons.mp hx with rfl | hx
  ·exact ha.v
  ·exact ha.k x hx) (fun x hx => by
  rcases List.mem_cons.mp hx with rfl | hx
  ·exact hb.v
  ·exact hb.k x hx) h2
 obtain ⟨s, v, k⟩ := a
 obtain ⟨s', v', k'⟩ := b
 simp only [List.cons.injEq] at h3
 have := decB_inj ha.s hb.s h1
 simp only at this
 rw [this, h3.1, h3.2]
end Go.Proofs.YteipiejlljnclaaGreatDoor
end
section
namespace Go.Proofs.YteipiejlljnclaaGreatDoor
open Go Go.AL
attribute [local irreducible] run opK opD callK
attribute [local simp] keep keepEnv keepRows keepAV keepPl keepBody keepElems keepElem keepCells lget inL normG
def kstr (n : Nd) : AV := .sc (.string ⟨(key n).toArray⟩)
def entL (l : List Nd) : List (AV × AV) := l.zipIdx.map fun x => (kstr x.1, .sc (.int .i64 (x.2 : Nat)))
theorem entL_snoc (l : List Nd) (n : Nd) : entL (l ++ [n]) = entL l ++ [(kstr n, .sc (.int .i64 (l.length : Nat)))] := by simp [entL, List.zipIdx_append]
theorem kstr_eq (a b : Nd) : keyEq (kstr a) (kstr b) = decide (key a = key b) := by
 show ((key a).toArray == (key b).toArray) = _
 by_cases h : key a = key b
 ·simp [h]
 ·simp [h]
theorem kstr_iff {a b : Nd} (ha : Sml a) (hb : Sml b) : keyEq (kstr a) (kstr b) = decide (a = b) := by
 rw [kstr_eq]
 by_cases h : a = b
 ·simp [h]
 ·have : key a ≠ key b := fun e => h (key_inj ha hb e)
  simp [h, this]
theorem mget_go {n : Nd} (hn : Sml n) : ∀ {l : List Nd} (k : Nat), (∀ m ∈ l, Sml m) → mget (kstr n) ((l.zipIdx k).map fun x => (kstr x.1, .sc (.int .i64 (x.2 : Nat)))) = if n ∈ l then some (.sc (.int .i64 ((k + l.idxOf n : Nat) : Int))) else none
 | [], k, _ => rfl
 | m :: l, k, h => by
  simp only [List.zipIdx_cons, List.map_cons, mget, kstr_iff hn (h m (by simp))]
  rw [mget_go hn (k + 1) fun x hx => h x (by simp [hx])]
  by_cases e : n = m
  ·subst e; simp
  ·have e' : ¬ m = n := fun h => e h.symm
   simp only [e, decide_false, Bool.false_eq_true, if_false, List.mem_cons, false_or]
   split
   ·rw [List.idxOf_cons, show (m == n) = false by simpa using e']
    simp only [cond_false]
    congr 4
    omega
   ·rfl
theorem mget_ent {n : Nd} {l : List Nd} (hn : Sml n) (h : ∀ m ∈ l, Sml m) : mget (kstr n) (entL l) = if n ∈ l then some (.sc (.int .i64 (l.idxOf n : Nat))) else none := by
 have := mget_go hn 0 h
 simpa [entL] using this
theorem mset_new {k v : AV} : ∀ {l : List (AV × AV)}, mget k l = none → mset k v l = l ++ [(k, v)]
 | [], _ => rfl
 | (a, x) :: l, h => by
  simp only [mget] at h
  split at h
  ·cases h
  ·rename_i hk
   simp only [mset]
   rw [if_neg hk, mset_new h]; rfl
theorem mset_ent {n : Nd} {l : List Nd} (hn : Sml n) (h : ∀ m ∈ l, Sml m) (hm : n ∉ l) : mset (kstr n) (.sc (.int .i64 (l.length : Nat))) (entL l) = entL (l ++ [n]) := by
 rw [mset_new (by rw [mget_ent hn h, if_neg hm]), entL_snoc]
theorem bs_bytes (l : List UInt8) : (bs l).map AL.byteOf = l := by
 unfold bs
 rw [List.map_map]
 conv => rhs; rw [← List.map_id l]
 exact List.map_congr_left fun b _ => by simp [AL.byteOf]
theorem bs_all (l : List UInt8) : (bs l).all (intOf1 .u8) = true := by simp [bs, intOf1]
theorem kstr_ok (n : Nd) : keyOK .str (kstr n) = true := rfl
@[go_sem] abbrev tp (l : List Nd) : PA := .ptr 2 (.agg [.nst, .nst]) [(0, .cells 3 (ns l)), (1, .map .str (entL l))]
def addL (l : List Nd) (n : Nd) : List Nd := if n ∈ l then l else l ++ [n]
def addI (l : List Nd) (n : Nd) : Nat := if n ∈ l then l.idxOf n else l.length
theorem kys_snoc (l : List Int) (n : Int) : kys (l ++ [n]) = kys l ++ (32 :: decB n) := by simp [kys]
theorem kys_len (l : List Int) : (kys l).length ≤ 4 * l.length := by
 induction l with
 | nil => simp [kys]
 | cons a l ih => have := decB_len a; simp only [kys, List.flatMap_cons, List.length_append, List.length_cons] at *; omega
theorem c_add (l : List Nd) (n : Nd) (hl : ∀ m ∈ l, Sml m) (hn : Sml n) (hll : l.length < 1000000) (hk : n.kids.length < 1000000) : CT 120 [tp l, ndat n] { val := iv .i64 (addI l n : Nat), args := [tp (addL l n), ndat n] } := by
 obtain ⟨s, v, k⟩ := n
 have hs := hn.s
 have hv := hn.v
 have hkk := hn.k
 simp only at hs hv hkk hk
 have hc0 := c_AppInt [] s hs (by simp)
 have hd := decB_len s
 refine Ctr.intro ⟨Tryz.f120, _, Tryz.call120, Tryz.func120, fold_body (by rfl) (by kernel_rfl), (by simp [Tryz.ntmps120]), (by simp), (by kernel_rfl), ?_⟩
 refine wks ?_
 refine wk0 ?_
 refine callI (hc0) ?_
 refine wk0 ?_
 obtain ⟨xs, hxs⟩ : ∃ xs, xs = v :: k := ⟨_, rfl⟩
 have hxl : xs.length = 1 + k.length := by rw [hxs, List.length_cons]; omega
 have hxm : ∀ x ∈ xs, sml x := fun x hx => by
  rw [hxs] at hx
  rcases List.mem_cons.mp hx with rfl | hx
  ·exact hv
  ·exact hkk x hx
 have hrow : AV.sc (Value.int IntKind.i64 v) :: ints k = ints xs := by rw [hxs]; rfl
 rw [hrow, ← hxl]
 have hlen : ∀ i, (decB s ++ kys (xs.take i)).length ≤ 3 + 4 * i := fun i => by
  have := kys_len (xs.take i)
  rw [List.length_take] at this
  rw [List.length_append]; omega
 refine run_loop [0, 3, 5, 19, 20, 21] [0, 3, 13, 16, 29, 10000000, 20000000] (α := {i : Nat // i ≤ xs.length})
  (fun i => match i.1 with
   | 0 => ⟨[(0, .hp ⟨0, 0⟩ 0 0), (3, .hp ⟨3, 1⟩ 0 0), (5, .hs ⟨13, 1⟩ 0 (decB s).length), (19, .hs ⟨16, 1⟩ 0 xs.length), (20, iv .i64 xs.length), (21, iv .i64 0)],
     [(0, ⟨0, true, true, .cells 2 [.agg [.hs ⟨10000000, 0⟩ 0 l.length, .hm ⟨20000000, 0⟩]]⟩), (3, ⟨1, true, true, .cells 3 [.agg [iv .i64 s, iv .i64 v, .sl 1 (ints k)]]⟩), (13, ⟨1, true, false, .cells 1 (bs (decB s))⟩), (16, ⟨1, true, false, .cells 1 (ints xs)⟩),
      (10000000, ⟨0, true, false, .cells 3 (ns l)⟩), (20000000, ⟨0, true, false, .map .str (entL l)⟩)]⟩
   | i + 1 => ⟨[(0, .hp ⟨0, 0⟩ 0 0), (3, .hp ⟨3, 1⟩ 0 0), (5, .hs ⟨29, 1⟩ 0 (decB s ++ kys (xs.take (i + 1))).length), (19, .hs ⟨16, 1⟩ 0 xs.length), (20, iv .i64 xs.length), (21, iv .i64 ((i + 1 : Nat) : Int))],
     [(0, ⟨0, true, true, .cells 2 [.agg [.hs ⟨10000000, 0⟩ 0 l.length, .hm ⟨20000000, 0⟩]]⟩), (3, ⟨1, true, true, .cells 3 [.agg [iv .i64 s, iv .i64 v, .sl 1 (ints k)]]⟩), (13, ⟨1, false, false, .cells 0 []⟩), (16, ⟨1, true, false, .cells 1 (ints xs)⟩),
      (29, ⟨1, true, false, .cells 1 (bs (decB s ++ kys (xs.take (i + 1))))⟩), (10000000, ⟨0, true, false, .cells 3 (ns l)⟩), (20000000, ⟨0, true, false, .map .str (entL l)⟩)]⟩)
  (fun i => xs.length - i.1) ⟨0, Nat.zero_le _⟩ (by first | rfl | simp) ?_
 rintro ⟨i, hi⟩
 cases i with
 | zero =>
  simp only
  refine wk0 ?_
  have hca := c_AppInt (bs (decB s) ++ [.sc (.int .u8 32)]) (gi xs 0) (hxm _ (gi_mem (by omega))) (by simp [bs_len]; omega)
  have e1 : (bs (decB s) ++ [AV.sc (Value.int IntKind.u8 32)]).take ((decB s).length + 1) = bs (decB s) ++ [AV.sc (Value.int IntKind.u8 32)] := List.take_of_length_le (by simp [bs_len])
  have e2 : bs (decB s) ++ [AV.sc (Value.int IntKind.u8 32)] ++ bs (decB (gi xs 0)) = bs (decB s ++ kys (xs.take 1)) := by
   rw [gi_take (l := xs) (k := 0) (j := 0) (by omega) rfl]; simp [bs, kys]
  have e3 : (bs (decB s) ++ [AV.sc (Value.int IntKind.u8 32)]).length + (decB (gi xs 0)).length = (decB s ++ kys (xs.take 1)).length := by
   have := congrArg List.length e2; simp only [List.length_append, bs_len] at this ⊢; omega
  rw [e2, e3] at hca
  have hbl := bs_len (decB s)
  have e4 : (bs (decB s)).take (decB s).length = bs (decB s) := List.take_of_length_le (by rw [bs_len]; exact Nat.le_refl _)
  refine wk2 @e4 @e1 ?_
  refine callI (hca) ?_
  refine wk0 ?_
  exact ⟨⟨1, by omega⟩, (by first | rfl | simp), by simp only <;> omega⟩
 | succ i =>
  simp only
  have hl1 := hlen (i + 1)
  have hbl := bs_len (decB s ++ kys (xs.take (i + 1)))
  obtain ⟨B, hB⟩ : ∃ B, B = decB s ++ kys (xs.take (i + 1)) := ⟨_, rfl⟩
  rw [← hB] at hl1 hbl ⊢
  refine wk0 ?_
  refine condK.dec (fun h => ?_) (fun h => ?_)
  ·have hca := c_AppInt (bs B ++ [.sc (.int .u8 32)]) (gi xs (i + 1)) (hxm _ (gi_mem (by omega))) (by simp [bs_len]; omega)
   have e1 : (bs B ++ [AV.sc (Value.int IntKind.u8 32)]).take (B.length + 1) = bs B ++ [AV.sc (Value.int IntKind.u8 32)] := List.take_of_length_le (by simp [bs_len])
   have e2 : bs B ++ [AV.sc (Value.int IntKind.u8 32)] ++ bs (decB (gi xs (i + 1))) = bs (decB s ++ kys (xs.take (i + 2))) := by
    rw [gi_take (l := xs) (k := i + 1) (j := i + 1) (by omega) rfl, kys_snoc, hB]; simp [bs]
   have e3 : (bs B ++ [AV.sc (Value.int IntKind.u8 32)]).length + (decB (gi xs (i + 1))).length = (decB s ++ kys (xs.take (i + 2))).length := by
    have := congrArg List.length e2; simp only [List.length_append, bs_len] at this ⊢; omega
   rw [e2, e3] at hca
   have e4 : (bs B).take B.length = bs B := List.take_of_length_le (by rw [bs_len]; exact Nat.le_refl _)
   refine wk2 @e4 @e1 ?_
   refine callI (hca) ?_
   refine wk0 ?_
   exact ⟨⟨i + 2, by omega⟩, (by first | rfl | simp), by simp only <;> omega⟩
  ·have e4 : (bs B).take B.length = bs B := List.take_of_length_le (by rw [bs_len]; exact Nat.le_refl _)
   have hBk : B = key ⟨s, v, k⟩ := by
    rw [hB, show i + 1 = xs.length by omega, List.take_length, hxs]; rfl
   have hkk2 : (bs B).map AL.byteOf = B := bs_bytes B
   have hba := bs_all B
   have hmg := mget_ent hn hl
   have hms := mset_ent hn hl
   unfold kstr at hmg hms
   rw [← hBk] at hmg hms
   by_cases hm : (⟨s, v, k⟩ : Nd) ∈ l
   ·rw [if_pos hm] at hmg
    have ea : addL l ⟨s, v, k⟩ = l := by unfold addL; rw [if_pos hm]
    have ei : addI l ⟨s, v, k⟩ = l.idxOf ⟨s, v, k⟩ := by unfold addI; rw [if_pos hm]
    rw [ea, ei]
    refine wk3 @e4 @hkk2 @hmg ?_
    simp [memOut, lget, VC, packOut, packKeys, cellsOf, cellKeys, disjB, inL, AV.isAgg, cellOut, ns_len, ns_take, List.take_of_length_le]
   ·rw [if_neg hm] at hmg
    have hms := hms hm
    have ea : addL l ⟨s, v, k⟩ = l ++ [⟨s, v, k⟩] := by unfold addL; rw [if_neg hm]
    have ei : addI l ⟨s, v, k⟩ = l.length := by unfold addI; rw [if_neg hm]
    rw [ea, ei]
    refine wk3 @e4 @hkk2 @hmg ?_
    refine vcalm (by kernel_rfl) ?_
    refine wk3 @e4 @hkk2 @hmg ?_
    refine vcalm (by kernel_rfl) ?_
    refine wk4 @e4 @hkk2 @hms @kstr_ok ?_
    simp [memOut, lget, VC, packOut, packKeys, cellsOf, cellKeys, disjB, inL, AV.isAgg, cellOut, ns_len, ns_take, List.take_of_length_le]
theorem c_TNew : CT 63 [] { val := .hp ⟨0, 0⟩ 0 0, new := [tp []], args := [] } := by
 refine Ctr.intro ⟨Tryz.f63, _, Tryz.call63, Tryz.func63, fold_body (by rfl) (by kernel_rfl), (by simp [Tryz.ntmps63]), (by simp), (by kernel_rfl), ?_⟩
 refine wks ?_
 refine wk0 ?_
 simp [memOut, lget, VC, packOut, packKeys, cellsOf, cellKeys, disjB, inL, AV.isAgg, cellOut, ns, entL]
theorem sml_m1 : sml (-1) := ⟨by decide, by decide⟩
theorem c_TLeaf (l : List Nd) (v : Int) (hl : ∀ m ∈ l, Sml m) (hv : sml v) (hll : l.length < 1000000) : CT 64 [tp l, .data (iv .i64 v)] { val := iv .i64 (addI l ⟨-1, v, []⟩ : Nat), args := [tp (addL l ⟨-1, v, []⟩), .data (iv .i64 v)] } := by
 have hc := c_add l ⟨-1, v, []⟩ hl ⟨sml_m1, hv, by simp⟩ hll (by simp)
 refine Ctr.intro ⟨Tryz.f64, _, Tryz.call64, Tryz.func64, fold_body (by rfl) (by kernel_rfl), (by simp [Tryz.ntmps64]), (by simp), (by kernel_rfl), ?_⟩
 refine wks ?_
 refine wk0 ?_
 refine callI (hc) ?_
 refine wk0 ?_
 simp [memOut, lget, VC, packOut, packKeys, cellsOf, cellKeys, disjB, inL, AV.isAgg, cellOut, ns_len, ns_take, List.take_of_length_le]
theorem sml_0 : sml 0 := ⟨by decide, by decide⟩
theorem c_TBranch (l : List Nd) (s : Int) (k : List Int) (hl : ∀ m ∈ l, Sml m) (hs : sml s) (hk : ∀ x ∈ k, sml x) (hll : l.length < 1000000) (hkl : k.length < 1000000) (hd : ¬ ∀ x ∈ k, x = gi k 0) :
  CT 65 [tp l, .data (iv .i64 s), idat k] { val := iv .i64 (addI l ⟨s, 0, k⟩ : Nat), args := [tp (addL l ⟨s, 0, k⟩), .data (iv .i64 s), idat k] } := by
 have hc := c_add l ⟨s, 0, k⟩ hl ⟨hs, sml_0, hk⟩ hll hkl
 refine Ctr.intro ⟨Tryz.f65, _, Tryz.call65, Tryz.func65, fold_body (by rfl) (by kernel_rfl), (by simp [Tryz.ntmps65]), (by simp), (by kernel_rfl), ?_⟩
 refine wks ?_
 refine wk0 ?_
 refine run_loop [0, 1, 2, 9, 10, 11] [0, 10000000, 20000000] (α := {i : Nat // i ≤ k.length ∧ ∀ j, j < i → gi k j = gi k 0})
  (fun i => ⟨[(0, .hp ⟨0, 0⟩ 0 0), (1, iv .i64 s), (2, .sl 1 (ints k)), (9, .sl 1 (ints k)), (10, iv .i64 k.length), (11, iv .i64 i.1)],
   [(0, ⟨0, true, true, .cells 2 [.agg [.hs ⟨10000000, 0⟩ 0 l.length, .hm ⟨20000000, 0⟩]]⟩), (10000000, ⟨0, true, false, .cells 3 (ns l)⟩), (20000000, ⟨0, true, false, .map .str (entL l)⟩)]⟩)
  (fun i => k.length - i.1) ⟨0, Nat.zero_le _, fun _ h => absurd h (Nat.not_lt_zero _)⟩ (by first | rfl | simp) ?_
 rintro ⟨i, hi, hq⟩
 refine wk0 ?_
 refine condK.dec (fun h => ?_) (fun h => ?_)
 ·refine wk0 ?_
  refine condK.dec (fun h2 => ?_) (fun h2 => ?_)
  ·refine wk0 ?_
   refine callI (hc) ?_
   refine wk0 ?_
   simp [memOut, lget, VC, packOut, packKeys, cellsOf, cellKeys, disjB, inL, AV.isAgg, cellOut, ns_len, ns_take, List.take_of_length_le]
  ·refine wk0 ?_
   refine ⟨⟨i + 1, by omega, fun j hj => ?_⟩, (by first | rfl | simp), by simp only; omega⟩
   by_cases hj2 : j = i
   ·subst hj2; exact Classical.not_not.1 h2
   ·exact hq j (by omega)
 ·exfalso
  apply hd
  intro x hx
  obtain ⟨j, hj, rfl⟩ := List.mem_iff_getElem.mp hx
  have := hq j (by omega)
  simpa [gi, List.getD, hj] using this
end Go.Proofs.YteipiejlljnclaaGreatDoor
end
