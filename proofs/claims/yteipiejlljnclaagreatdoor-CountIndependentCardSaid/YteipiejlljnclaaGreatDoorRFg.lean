/- Sorting, part 6: the scattering of patterns. Conditions stand in each. -/
import Derived.Test.YteipiejlljnclaaGreatDoorRFa
import Derived.Test.YteipiejlljnclaaGreatDoorRCj
import Derived.Sort.AssemblyPlain
set_option linter.unusedVariables false
set_option linter.unusedSimpArgs false
set_option maxRecDepth 10000
set_option maxHeartbeats 8000000
section
namespace Go.Proofs.YteipiejlljnclaaGreatDoor
open Go Go.AL Go.Sort
attribute [local irreducible] run opK opD callK
attribute [local simp] keep keepEnv keepRows keepAV keepPl keepBody keepElems keepElem keepCells lget inL normG mc_keep mc_keep0
attribute [local irreducible] ec pa swp
attribute [local simp] keep keepEnv keepRows keepAV keepPl keepBody keepElems keepElem keepCells lget inL normG mc_keep mc_keep0
variable {c : Nat} {r : Value} {cf : Tm → Tm → Int}
theorem len64_end {L : List UInt8} (h256 : L.length = 256) (ht : ∀ i, i < 256 → (L.getD i 0).toNat = blen i) {m n : Nat} {b : Int} {q : Prop} (hm : m < 256) (hb : 0 ≤ b ∧ b ≤ 56) (hn : (blen n : Int) = b + blen m) :
  VC (IntKind.u8.wrap (m : Int) < (L.length : Int)) ∧ Value.int IntKind.i64 (IntKind.i64.wrap (b + IntKind.i64.wrap ((L.getD (IntKind.u8.wrap (m : Int)).toNat 0).toNat : Int))) = Value.int IntKind.i64 (blen n) ∧ VC True := by
 rw [wu8_nat hm, toNat_nat, ht m hm]
 have h8 : blen m ≤ 8 := by
  have : ∀ i, i < 256 → blen i ≤ 8 := by decide +kernel
  exact this m hm
 refine ⟨by simp only [VC]; omega, ?_, trivial⟩
 rw [wi64_nat (by omega), w64 (by omega), hn]
theorem p64_16 : (2 : Int) ^ min (Int.toNat 16) IntKind.u64.bits = 65536 := by decide
theorem p64_8 : (2 : Int) ^ min (Int.toNat 8) IntKind.u64.bits = 256 := by decide
theorem p64_16' : (2 : Int) ^ min (Int.toNat 16) 64 = 65536 := by decide
theorem p64_8' : (2 : Int) ^ min (Int.toNat 8) 64 = 256 := by decide
attribute [local go_sem] p64_16 p64_8 p64_16' p64_8'
theorem c_Len64 (n : Nat) (h : n < 18446744073709551616) : CT 262 [.data (iv .u64 n)] { val := iv .i64 (blen n), args := [.data (iv .u64 n)] } := by
 refine Ctr.intro ⟨Tryz.f262, _, Tryz.call262, Tryz.func262, fold_body (by rfl) (by kernel_rfl), (by simp [Tryz.ntmps262]), (by simp), (by kernel_rfl), ?_⟩
 refine wks ?_
 refine wk0 ?_
 refine condK.dec (fun h0 => ?_) (fun h0 => ?_)
 ·have e0 : blen n = blen (n / 4294967296) + 32 := blen_shift (k := 32) (by omega)
  refine wk0 ?_
  refine condK.dec (fun h1 => ?_) (fun h1 => ?_)
  ·have e1 : blen (n / 4294967296) = blen (n / 4294967296 / 65536) + 16 := blen_shift (k := 16) (by omega)
   refine wk0 ?_
   refine condK.dec (fun h2 => ?_) (fun h2 => ?_)
   ·have e2 : blen (n / 4294967296 / 65536) = blen (n / 4294967296 / 65536 / 256) + 8 := blen_shift (k := 8) (by omega)
    refine wk0 ?_
    generalize hL : (List.append (List.append _ _) _ : List UInt8) = L
    have h256 : L.length = 256 := by rw [← hL]; rfl
    have ht : ∀ i, i < 256 → (L.getD i 0).toNat = blen i := by rw [← hL]; decide +kernel
    exact len64_end (b := 56) (m := n / 4294967296 / 65536 / 256) (q := True) h256 ht (by omega) (by omega) (by omega)
   ·refine wk0 ?_
    generalize hL : (List.append (List.append _ _) _ : List UInt8) = L
    have h256 : L.length = 256 := by rw [← hL]; rfl
    have ht : ∀ i, i < 256 → (L.getD i 0).toNat = blen i := by rw [← hL]; decide +kernel
    exact len64_end (b := 48) (m := n / 4294967296 / 65536) (q := True) h256 ht (by omega) (by omega) (by omega)
  ·refine wk0 ?_
   refine condK.dec (fun h2 => ?_) (fun h2 => ?_)
   ·have e2 : blen (n / 4294967296) = blen (n / 4294967296 / 256) + 8 := blen_shift (k := 8) (by omega)
    refine wk0 ?_
    generalize hL : (List.append (List.append _ _) _ : List UInt8) = L
    have h256 : L.length = 256 := by rw [← hL]; rfl
    have ht : ∀ i, i < 256 → (L.getD i 0).toNat = blen i := by rw [← hL]; decide +kernel
    exact len64_end (b := 40) (m := n / 4294967296 / 256) (q := True) h256 ht (by omega) (by omega) (by omega)
   ·refine wk0 ?_
    generalize hL : (List.append (List.append _ _) _ : List UInt8) = L
    have h256 : L.length = 256 := by rw [← hL]; rfl
    have ht : ∀ i, i < 256 → (L.getD i 0).toNat = blen i := by rw [← hL]; decide +kernel
    exact len64_end (b := 32) (m := n / 4294967296) (q := True) h256 ht (by omega) (by omega) (by omega)
 ·refine wk0 ?_
  refine condK.dec (fun h1 => ?_) (fun h1 => ?_)
  ·have e1 : blen n = blen (n / 65536) + 16 := blen_shift (k := 16) (by omega)
   refine wk0 ?_
   refine condK.dec (fun h2 => ?_) (fun h2 => ?_)
   ·have e2 : blen (n / 65536) = blen (n / 65536 / 256) + 8 := blen_shift (k := 8) (by omega)
    refine wk0 ?_
    generalize hL : (List.append (List.append _ _) _ : List UInt8) = L
    have h256 : L.length = 256 := by rw [← hL]; rfl
    have ht : ∀ i, i < 256 → (L.getD i 0).toNat = blen i := by rw [← hL]; decide +kernel
    exact len64_end (b := 24) (m := n / 65536 / 256) (q := True) h256 ht (by omega) (by omega) (by omega)
   ·refine wk0 ?_
    generalize hL : (List.append (List.append _ _) _ : List UInt8) = L
    have h256 : L.length = 256 := by rw [← hL]; rfl
    have ht : ∀ i, i < 256 → (L.getD i 0).toNat = blen i := by rw [← hL]; decide +kernel
    exact len64_end (b := 16) (m := n / 65536) (q := True) h256 ht (by omega) (by omega) (by omega)
  ·refine wk0 ?_
   refine condK.dec (fun h2 => ?_) (fun h2 => ?_)
   ·have e2 : blen n = blen (n / 256) + 8 := blen_shift (k := 8) (by omega)
    refine wk0 ?_
    generalize hL : (List.append (List.append _ _) _ : List UInt8) = L
    have h256 : L.length = 256 := by rw [← hL]; rfl
    have ht : ∀ i, i < 256 → (L.getD i 0).toNat = blen i := by rw [← hL]; decide +kernel
    exact len64_end (b := 8) (m := n / 256) (q := True) h256 ht (by omega) (by omega) (by omega)
   ·refine wk0 ?_
    generalize hL : (List.append (List.append _ _) _ : List UInt8) = L
    have h256 : L.length = 256 := by rw [← hL]; rfl
    have ht : ∀ i, i < 256 → (L.getD i 0).toNat = blen i := by rw [← hL]; decide +kernel
    exact len64_end (b := 0) (m := n) (q := True) h256 ht (by omega) (by omega) (by omega)
theorem c_Len (n : Nat) (h : n < 18446744073709551616) : CT 206 [.data (iv .u64 n)] { val := iv .i64 (bitsLen n), args := [.data (iv .u64 n)] } := by
 have c1 := c_Len64 n h
 refine Ctr.intro ⟨Tryz.f206, _, Tryz.call206, Tryz.func206, fold_body (by rfl) (by kernel_rfl), (by simp [Tryz.ntmps206]), (by simp), (by kernel_rfl), ?_⟩
 refine wks ?_
 refine wk0 ?_
 refine callI (c1) ?_
 refine wk0 ?_
 exact ⟨rfl, trivial⟩
theorem c_pow2 (n : Nat) (h : n < 1152921504606846976) : CT 296 [.data (iv .i64 n)] { val := iv .u64 (2 ^ bitsLen n : Nat), args := [.data (iv .i64 n)] } := by
 have hb : bitsLen n ≤ 60 := by
  unfold bitsLen
  split
  ·omega
  ·have := (Nat.log2_lt (n := n) (k := 60) (by assumption)).2 (by omega)
   omega
 refine Ctr.intro ⟨Tryz.f296, _, Tryz.call296, Tryz.func296, fold_body (by rfl) (by kernel_rfl), (by simp [Tryz.ntmps296]), (by simp), (by kernel_rfl), ?_⟩
 refine wks ?_
 refine wk0 ?_
 refine callI (c_Len n (by omega)) ?_
 refine wk0 ?_
 have e : (1 : Int) * 2 ^ (min (bitsLen n) 64) = ((2 ^ bitsLen n : Nat) : Int) := by rw [Nat.min_eq_left (by omega)]; simp
 have h2 : 2 ^ bitsLen n < 2 ^ 64 := Nat.pow_lt_pow_right (by decide) (by omega)
 rw [e, wu64_nat (by simpa using h2)]
 exact ⟨rfl, trivial⟩
theorem xs_shl13 (x : UInt64) : IntKind.u64.wrap ((x.toNat : Int) * 2 ^ min (Int.toNat 13) 64) = ((x <<< 13).toNat : Int) := by
 have e : (2 : Int) ^ min (Int.toNat 13) 64 = 8192 := by decide
 rw [e, UInt64.toNat_shiftLeft, Nat.shiftLeft_eq, IntKind.wrap]
 simp [IntKind.bits, IntKind.signed]
theorem xs_shl17 (x : UInt64) : IntKind.u64.wrap ((x.toNat : Int) * 2 ^ min (Int.toNat 17) 64) = ((x <<< 17).toNat : Int) := by
 have e : (2 : Int) ^ min (Int.toNat 17) 64 = 131072 := by decide
 rw [e, UInt64.toNat_shiftLeft, Nat.shiftLeft_eq, IntKind.wrap]
 simp [IntKind.bits, IntKind.signed]
theorem xs_shr7 (x : UInt64) : Int.fdiv (x.toNat : Int) (2 ^ min (Int.toNat 7) 64) = ((x >>> 7).toNat : Int) := by
 have e : (2 : Int) ^ min (Int.toNat 7) 64 = 128 := by decide
 rw [e, UInt64.toNat_shiftRight, Nat.shiftRight_eq_div_pow, Int.fdiv_eq_ediv_of_nonneg _ (by decide)]
 simp
theorem xs_xor (x y : UInt64) : ibits .xor .u64 (x.toNat : Int) (y.toNat : Int) = ((x ^^^ y).toNat : Int) := by
 have h1 : x.toNat < 18446744073709551616 := x.toNat_lt
 have h2 : y.toNat < 18446744073709551616 := y.toNat_lt
 have h3 : x.toNat ^^^ y.toNat < 2 ^ 64 := Nat.xor_lt_two_pow (by omega) (by omega)
 rw [UInt64.toNat_xor]
 show IntKind.u64.wrap (((BitVec.ofInt 64 (x.toNat : Int)) ^^^ (BitVec.ofInt 64 (y.toNat : Int))).toNat : Int) = _
 rw [BitVec.ofInt_natCast, BitVec.ofInt_natCast, BitVec.toNat_xor, BitVec.toNat_ofNat, BitVec.toNat_ofNat, Nat.mod_eq_of_lt (by omega), Nat.mod_eq_of_lt (by omega), wu64_nat (by omega)]
theorem c_next (x : UInt64) : CT 297 [.ptr 1 (iv .u64 x.toNat) []] { val := iv .u64 (xorNext x).toNat, args := [.ptr 1 (iv .u64 (xorNext x).toNat) []] } := by
 obtain ⟨y, hy⟩ : ∃ y, y = x ^^^ (x <<< 13) := ⟨_, rfl⟩
 obtain ⟨z, hz⟩ : ∃ z, z = y ^^^ (y >>> 7) := ⟨_, rfl⟩
 obtain ⟨w, hw⟩ : ∃ w, w = z ^^^ (z <<< 17) := ⟨_, rfl⟩
 have e : xorNext x = w := by rw [hw, hz, hy]; rfl
 rw [e]
 refine Ctr.intro ⟨Tryz.f297, _, Tryz.call297, Tryz.func297, fold_body (by rfl) (by kernel_rfl), (by simp [Tryz.ntmps297]), (by simp), (by kernel_rfl), ?_⟩
 refine wks ?_
 refine wk3 @xs_shl13 @xs_xor (hy).symm ?_
 refine vcalm (by kernel_rfl) ?_
 refine wk3 @xs_shr7 @xs_xor (hz).symm ?_
 refine vcalm (by kernel_rfl) ?_
 refine wk3 @xs_shl17 @xs_xor (hw).symm ?_
 refine vcalm (by kernel_rfl) ?_
 refine wk0 ?_
 simp [memOut, lget, VC, packOut, packKeys, cellsOf, cellKeys, disjB, inL, AV.isAgg, cellOut]
def brkN (a L M I : Nat) : Nat → UInt64 × Array Tm → Array Tm
 | 0, st => st.2
 | k + 1, st => brkN a L M I k (breakStep a L M st (I + 2 - k))
theorem c_break (d : Array Tm) (a b : Nat) (hab : a ≤ b) (hb : b ≤ d.size) (hs : d.size < 1152921504606846976) : CT 270 (sargs d a b c r)
  {val := .tup [], args := sargs (breakPatterns d a b) a b c r } := by
 obtain ⟨L, hL⟩ : ∃ L, L = b - a := ⟨_, rfl⟩
 have f0 : ((b : Int) - (a : Int)) = (L : Int) := by omega
 have f1 : ((L : Int)).tdiv 4 = ((L / 4 : Nat) : Int) := by rw [Int.tdiv_eq_ediv_of_nonneg (by omega)]; omega
 have f2 : IntKind.u64.wrap (L : Int) = ((UInt64.ofNat L).toNat : Int) := by
  rw [wu64_nat (by omega), UInt64.toNat_ofNat', Nat.mod_eq_of_lt (by omega)]
 refine Ctr.intro ⟨Tryz.f270, _, Tryz.call270, Tryz.func270, fold_body (by rfl) (by kernel_rfl), (by simp [Tryz.ntmps270]), (by simp), (by kernel_rfl), ?_⟩
 refine wks ?_
 refine wk1 @f0 ?_
 refine condK.dec (fun h8 => ?_) (fun h8 => ?_)
 ·obtain ⟨I, hI⟩ : ∃ I, I = a + L / 4 * 2 - 1 := ⟨_, rfl⟩
  have g1 : ((a : Int) + ((L / 4 : Nat) : Int) * 2 - 1) = (I : Int) := by omega
  have g2 : ((a : Int) + ((L / 4 : Nat) : Int) * 2 + 1) = ((I + 2 : Nat) : Int) := by omega
  obtain ⟨M, hM⟩ : ∃ M, M = 2 ^ bitsLen L := ⟨_, rfl⟩
  have hM2 : M ≤ 2 * L := by rw [hM]; exact two_pow_bitsLen_le (by omega)
  have hM0 : 0 < M := by rw [hM]; exact Nat.pow_pos (by decide)
  have g3 : IntKind.u64.wrap ((M : Int) - 1) = ((M - 1 : Nat) : Int) := by
   have e : (M : Int) - 1 = ((M - 1 : Nat) : Int) := by omega
   rw [e, wu64_nat (by omega)]
  have hB : brkN a L M I 3 (UInt64.ofNat L, d) = breakPatterns d a b := by
   unfold breakPatterns
   simp only [← hL, Nat.one_shiftLeft, ← hM]
   rw [if_pos (show L ≥ 8 by omega), ← hI]
   rfl
  have hc := c_pow2 L (by omega)
  rw [← hM] at hc
  refine wk1 @f2 ?_
  refine callI (hc) ?_
  refine wk2 @f1 @g1 ?_
  refine run_loop [0, 1, 8, 9, 10, 11] [0, 9] (α := {s : Nat × UInt64 × Array Tm // s.1 ≤ 3 ∧ s.2.2.size = d.size ∧ brkN a L M I s.1 s.2 = breakPatterns d a b})
   (fun s => ⟨[(0, .hs ⟨0, 0⟩ 0 d.size), (1, iv .i64 a), (8, iv .i64 L), (9, .hp ⟨9, 1⟩ 0 0), (10, iv .u64 M), (11, iv .i64 ((I + 3 - s.1.1 : Nat) : Int))], [(0, ⟨0, true, false, .cells 11 (pa s.1.2.2)⟩), (9, ⟨1, true, true, .cells 1 [iv .u64 s.1.2.1.toNat]⟩)]⟩)
   (fun s => s.1.1) ⟨(3, UInt64.ofNat L, d), by simp only; omega, rfl, hB⟩ (by first | rfl | simp [tc, qc]) ?_
  rintro ⟨⟨k, x, y⟩, hk, hy, hR⟩
  simp only at hk hy hR
  refine wk2 @f1 @g2 ?_
  refine condK.dec (fun h => ?_) (fun h => ?_)
  ·obtain ⟨k, rfl⟩ : ∃ k', k = k' + 1 := ⟨k - 1, by omega⟩
   have e1 : I + 3 - (k + 1) = I + 2 - k := by omega
   obtain ⟨O, hO⟩ : ∃ O, (xorNext x).toNat &&& (M - 1) = O := ⟨_, rfl⟩
   have hO2 : O < M := by
    rw [← hO]
    have : (xorNext x).toNat &&& (M - 1) ≤ M - 1 := Nat.and_le_right
    omega
   have hx := (xorNext x).toNat_lt
   rw [brkN, breakStep] at hR
   simp only [hO] at hR
   simp only [e1]
   refine wk0 ?_
   refine callI (c_next x) ?_
   refine wk2 @g3 @hO ?_
   have e2 : ((I + 2 - k : Nat) : Int) + 1 = ((I + 3 - k : Nat) : Int) := by omega
   refine condK.dec (fun h2 => ?_) (fun h2 => ?_)
   ·rw [if_pos (by omega)] at hR
    have e3 : (O : Int) - (L : Int) = ((O - L : Nat) : Int) := by omega
    refine wk1 @e3 ?_
    refine vcalm (by kernel_rfl) ?_
    refine wk1 @e2 ?_
    exact ⟨⟨(k, xorNext x, swp y (I + 2 - k) (a + (O - L))), by simp only; omega, by simp only [swp_size]; exact hy, hR⟩, (by first | rfl | simp [tc, qc]), by simp only; omega⟩
   ·rw [if_neg (by omega)] at hR
    refine wk0 ?_
    refine vcalm (by kernel_rfl) ?_
    refine wk1 @e2 ?_
    exact ⟨⟨(k, xorNext x, swp y (I + 2 - k) (a + O)), by simp only; omega, by simp only [swp_size]; exact hy, hR⟩, (by first | rfl | simp [tc, qc]), by simp only; omega⟩
  ·have hk0 : k = 0 := by omega
   subst hk0
   rw [brkN] at hR
   simp only at hR
   refine wk1 @hR ?_
   simp [memOut, lget, VC, packOut, packKeys, cellsOf, cellKeys, disjB, inL, AV.isAgg, cellOut]
 ·have hB : breakPatterns d a b = d := by
   unfold breakPatterns
   simp only [← hL]
   rw [if_neg (show ¬ L ≥ 8 by omega)]
  refine wk1 @hB ?_
  simp [memOut, lget, VC, packOut, packKeys, cellsOf, cellKeys, disjB, inL, AV.isAgg, cellOut]
end Go.Proofs.YteipiejlljnclaaGreatDoor
end
section
namespace Go.Proofs.YteipiejlljnclaaGreatDoor
open Go.Sort
variable {α : Type} [Inhabited α] {lt : α → α → Bool}
theorem swpS (d : Array α) (i j : Nat) : (swp d i j).size = d.size := by simp [swp]
theorem shiftDownS : ∀ (j : Nat) (x : Array α), (shiftDown lt j x).size = x.size
 | 0, x => rfl
 | j + 1, x => by
  rw [shiftDown]
  split
  ·rfl
  ·rw [shiftDownS j, swpS]
theorem shiftUpS {b : Nat} : ∀ (n j : Nat) (x : Array α), b - j ≤ n → (shiftUp lt b j x).size = x.size := by
 intro n
 induction n with
 | zero => intro j x h; rw [shiftUp, if_neg (by omega)]
 | succ n ih =>
  intro j x h
  rw [shiftUp]
  split
  ·split
   ·rfl
   ·rw [ih _ _ (by omega), swpS]
  ·rfl
theorem partialInsS {a b : Nat} : ∀ (s i : Nat) (x : Array α), (partialIns lt a b s i x).1.size = x.size
 | 0, i, x => rfl
 | s + 1, i, x => by
  rw [partialIns]
  simp only []
  split
  ·rfl
  ·split
   ·rfl
   ·rw [partialInsS s]
    split <;> split <;> simp [swpS, shiftDownS, shiftUpS _ _ _ (Nat.le_refl _)]
theorem partialInsertionS {a b : Nat} {x : Array α} : (partialInsertionSort lt x a b).1.size = x.size := partialInsS _ _ _
theorem partition_range (d : Array α) (a b p : Nat) (hab : a < b) (hb : b ≤ d.size) : a ≤ (partition lt d a b p).1 ∧ (partition lt d a b p).1 < b ∧ (partition lt d a b p).2.2.size = d.size := by
 have h := partLoop_spec lt a b _ (a + 1) (b - 1) (swp d a p) (Nat.le_refl _) (by omega) (by omega) (by omega) (by rw [swpS]; exact hb) (fun t h1 h2 => by omega) (fun t h1 h2 => by omega)
 rw [partition_fst, partition_arr]
 exact ⟨h.1, h.2.1, by rw [swpS, h.2.2.1.1, swpS]⟩
theorem partEq_range (d : Array α) (a b p : Nat) (hab : a < b) (hb : b ≤ d.size) : a < (partitionEqual lt d a b p).1 ∧ (partitionEqual lt d a b p).1 ≤ b ∧ (partitionEqual lt d a b p).2.size = d.size := by
 have h := partEqLoop_spec lt a b _ (a + 1) (b - 1) (swp d a p) (Nat.le_refl _) (by omega) (by omega) (by omega) (by rw [swpS]; exact hb) (fun t h1 h2 => by omega) (fun t h1 h2 => by omega)
 exact ⟨h.1, h.2.1, by rw [partitionEqual, h.2.2.1.1, swpS]⟩
theorem breakS (d : Array α) (a b : Nat) (hab : a ≤ b) (hb : b ≤ d.size) : (breakPatterns d a b).size = d.size := (breakPatterns_holds d a b hab hb).1
theorem reverseS (d : Array α) (a b : Nat) (hab : a ≤ b) (hb : b ≤ d.size) : (reverseRange d a b).size = d.size := (reverseRange_holds d a b hab hb).1
def pdqT (lt : α → α → Bool) (x : Array α) (a b p L : Nat) (wb wp : Bool) : Array α :=
 if a > 0 && !lt x[a - 1]! x[p]! then
  match partitionEqual lt x a b p with
  | (mid, d4) => if _h : a < mid ∧ mid ≤ b then pdq lt d4 mid b L wb wp else d4
 else
  match partition lt x a b p with
  | (mid, ap, d4) =>
   if _h : a ≤ mid ∧ mid < b then
    if mid - a < b - mid then
     pdq lt (pdq lt d4 a mid L true true) (mid + 1) b L (decide (mid - a ≥ (b - a) / 8)) ap
    else
     pdq lt (pdq lt d4 (mid + 1) b L true true) a mid L (decide (b - mid ≥ (b - a) / 8)) ap
   else d4
theorem pdq_ins {x : Array α} {a b L : Nat} {wb wp : Bool} (h : b - a ≤ 12) : pdq lt x a b L wb wp = insertionSort lt x a b := by rw [pdq, if_pos h]
theorem pdq_heap {x : Array α} {a b : Nat} {wb wp : Bool} (h : ¬ b - a ≤ 12) : pdq lt x a b 0 wb wp = heapSort lt x a b := by rw [pdq, if_neg h, if_pos rfl]
def pdqP (lt : α → α → Bool) (x : Array α) (a b L : Nat) (wb wp : Bool) : Array α :=
 let c := choosePivot lt x a b
 let d2 := if c.2 = .decreasing then reverseRange x a b else x
 let pivot := if c.2 = .decreasing then (b - 1) - (c.1 - a) else c.1
 let hint := if c.2 = .decreasing then Hint.increasing else c.2
 let pi := if wb && wp && hint = .increasing then partialInsertionSort lt d2 a b else (d2, false)
 if pi.2 then pi.1 else pdqT lt pi.1 a b pivot L wb wp
theorem pdq_unbal {x : Array α} {a b L : Nat} {wp : Bool} (h : ¬ b - a ≤ 12) (hL : L ≠ 0) : pdq lt x a b L false wp = pdqP lt (breakPatterns x a b) a b (L - 1) false wp := by
 rw [pdq, if_neg h, if_neg hL]; rfl
theorem pdq_bal {x : Array α} {a b L : Nat} {wp : Bool} (h : ¬ b - a ≤ 12) (hL : L ≠ 0) : pdq lt x a b L true wp = pdqP lt x a b L true wp := by
 rw [pdq, if_neg h, if_neg hL]; rfl
theorem pdqT_eq {x : Array α} {a b p L : Nat} {wb wp : Bool} (hab : a < b) (hb : b ≤ x.size) (h : (decide (a > 0) && !lt x[a - 1]! x[p]!) = true) :
  pdqT lt x a b p L wb wp = pdq lt (partitionEqual lt x a b p).2 (partitionEqual lt x a b p).1 b L wb wp := by
 have hr := partEq_range (lt := lt) x a b p hab hb
 rw [pdqT, if_pos h]
 simp only []
 rw [dif_pos ⟨hr.1, hr.2.1⟩]
theorem pdqT_lt {x : Array α} {a b p L : Nat} {wb wp : Bool} (hab : a < b) (hb : b ≤ x.size) (h : (decide (a > 0) && !lt x[a - 1]! x[p]!) = false) (h2 : (partition lt x a b p).1 - a < b - (partition lt x a b p).1) :
  pdqT lt x a b p L wb wp = pdq lt (pdq lt (partition lt x a b p).2.2 a (partition lt x a b p).1 L true true) ((partition lt x a b p).1 + 1) b L (decide ((partition lt x a b p).1 - a ≥ (b - a) / 8)) (partition lt x a b p).2.1 := by
 have hr := partition_range (lt := lt) x a b p hab hb
 rw [pdqT, if_neg (by rw [h]; simp)]
 simp only []
 rw [dif_pos ⟨hr.1, hr.2.1⟩, if_pos h2]
theorem pdqT_ge {x : Array α} {a b p L : Nat} {wb wp : Bool} (hab : a < b) (hb : b ≤ x.size) (h : (decide (a > 0) && !lt x[a - 1]! x[p]!) = false) (h2 : ¬ (partition lt x a b p).1 - a < b - (partition lt x a b p).1) :
  pdqT lt x a b p L wb wp = pdq lt (pdq lt (partition lt x a b p).2.2 ((partition lt x a b p).1 + 1) b L true true) a (partition lt x a b p).1 L (decide (b - (partition lt x a b p).1 ≥ (b - a) / 8)) (partition lt x a b p).2.1 := by
 have hr := partition_range (lt := lt) x a b p hab hb
 rw [pdqT, if_neg (by rw [h]; simp)]
 simp only []
 rw [dif_pos ⟨hr.1, hr.2.1⟩, if_neg h2]
theorem pdqS (hO : SWO lt) : ∀ (n : Nat) (x : Array α) (a b L : Nat) (wb wp : Bool), b - a ≤ n → a ≤ b → b ≤ x.size → (pdq lt x a b L wb wp).size = x.size := by
 intro n
 induction n with
 | zero => intro x a b L wb wp h hab hb; rw [pdq_ins (by omega)]; exact (insertionSort_holds hO x a b hab hb).1.1
 | succ n ih =>
  intro x a b L wb wp h hab hb
  by_cases h12 : b - a ≤ 12
  ·rw [pdq_ins h12]; exact (insertionSort_holds hO x a b hab hb).1.1
  ·cases L with
   | zero => rw [pdq_heap h12]; exact (heapSort_holds hO x a b hab hb).1.1
   | succ L =>
    have hT : ∀ (y : Array α) (p L : Nat), y.size = x.size → (pdqT lt y a b p L wb wp).size = x.size := by
     intro y p L hy
     cases hc : (decide (a > 0) && !lt y[a - 1]! y[p]!) with
     | true =>
      have hr := partEq_range (lt := lt) y a b p (by omega) (by omega)
      rw [pdqT_eq (by omega) (by omega) hc, ih _ _ _ _ _ _ (by omega) (by omega) (by omega), hr.2.2, hy]
     | false =>
      have hr := partition_range (lt := lt) y a b p (by omega) (by omega)
      by_cases h2 : (partition lt y a b p).1 - a < b - (partition lt y a b p).1
      ·have e := ih (partition lt y a b p).2.2 a (partition lt y a b p).1 L true true (by omega) (by omega) (by omega)
       rw [pdqT_lt (by omega) (by omega) hc h2, ih _ _ _ _ _ _ (by omega) (by omega) (by omega), e, hr.2.2, hy]
      ·have e := ih (partition lt y a b p).2.2 ((partition lt y a b p).1 + 1) b L true true (by omega) (by omega) (by omega)
       rw [pdqT_ge (by omega) (by omega) hc h2, ih _ _ _ _ _ _ (by omega) (by omega) (by omega), e, hr.2.2, hy]
    have hP : ∀ (y : Array α) (L : Nat), y.size = x.size → (pdqP lt y a b L wb wp).size = x.size := by
     intro y L hy
     unfold pdqP
     simp only []
     have hrev := reverseS y a b hab (by omega)
     repeat' split
     all_goals first
      | exact hy
      | (rw [hrev, hy])
      | (rw [partialInsertionS, hy])
      | (rw [partialInsertionS, hrev, hy])
      | (apply hT; first | exact hy | (rw [hrev, hy]) | (rw [partialInsertionS, hy]) | (rw [partialInsertionS, hrev, hy]))
    cases wb with
    | true => rw [pdq_bal h12 (by omega)]; exact hP _ _ rfl
    | false => rw [pdq_unbal h12 (by omega)]; exact hP _ _ (breakS x a b hab hb)
end Go.Proofs.YteipiejlljnclaaGreatDoor
end
