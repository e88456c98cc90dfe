/- From a law's contract to its row: for every list of numbers the law returns true, and the list reads afterwards as it read before. No condition but where it stands. -/
import Derived.Test.YteipiejlljnclaaGreatDoorRBf
import Derived.Test.YteipiejlljnclaaGreatDoorRCa2
import Derived.Test.YteipiejlljnclaaGreatDoorRGa
import Derived.Test.YteipiejlljnclaaGreatDoorTie
import Derived.Test.YteipiejlljnclaaGreatDoorCards
import Derived.ProofKit
import Derived.LaidMore
import Derived.OpenShut
import Derived.Carry
import Derived.ChangeSlices
import Derived.Stop.Joined
import Derived.SevenTiedAt
set_option linter.unusedVariables false
set_option linter.unusedSimpArgs false
section
namespace Go.Proofs.YteipiejlljnclaaGreatDoor
open Go Go.AL Go.ChangeShapes Go.WideShapes Go.ChangeAt Go.WideMaps Go.WideElems Go.RowKit
theorem mixedO : Tryz.prog.follows .mixedOrders = true := by kernel_rfl
theorem ct_sem {f : FuncId} {aa : List PA} {r : CRes} (h : CT f aa r) : SemCtr Tryz.prog f aa r := Ctr.sound mixedO (fun _ _ _ h => h.elim) h
theorem law_run {f : FuncId} {l : List Int} (hS : SemCtr Tryz.prog f [idat l] { val := .sc (.bool true), args := [idat l] }) (W : World) (v : Value)
  (hv : ∀ (A : Nat → Prop) (H : AV → Value → Prop), (∀ b, ¬ A b) → Rep W A H (.sl 1 (ints l)) v) : Calls Tryz.prog f #[v] W fun e W' => e = .returned (.bool true) ∧ Below W.heap.size W W' := by
 obtain ⟨_, _, h⟩ := hS
 let w1 : Base := { toWorld := W, loc := fun _ => none, rows0 := [] }
 have hrows : (entry [idat l]).rows = [] := rfl
 have hA : ∀ b, ¬ Av (fun _ => False) (entry [idat l]).rows (fun _ => none) b := by
  intro b hb
  rcases hb with h | ⟨r, row, o, h1, _, h3⟩
  ·exact h
  ·cases h3
 have hc : Core (fun _ => False) (fun _ => False) w1 (entry [idat l]) (fun t => #[v].getD t undef) w1.toWorld w1.loc := by
  refine ⟨rfl, rfl, rfl, Nat.le_refl _, fun _ _ _ => rfl, fun _ h => h.elim, fun b c e h => ⟨c, e, h, Nat.le_refl _⟩, ?_, ?_, ?_, ?_, ?_⟩
  ·intro r row h; rw [hrows] at h; cases h
  ·intro t
   cases t with
   | zero => exact hv _ _ hA
   | succ t =>
    have : (entry [idat l]).slot (t + 1) = .junk := rfl
    rw [this]; exact trivial
  ·intro r row h; rw [hrows] at h; cases h
  ·intro r r' row row' b o o' h; rw [hrows] at h; cases h
  ·intro r row b o h; rw [hrows] at h; cases h
 refine (h _ _ w1 #[v] hc rfl).mono fun e W' he => ?_
 obtain ⟨u, rfl, hx⟩ := he
 obtain ⟨w2, Φx, e2, hcore, _⟩ := hx.core
 have henv := hcore.env 0
 have hu : u = .bool true := henv.1
 subst hu
 have e3 : w2.toWorld = W := e2
 refine ⟨rfl, ⟨?_, ?_, ?_, ?_, ?_⟩⟩
 ·rw [hcore.os, e3]
 ·rw [hcore.tape, e3]
 ·rw [hcore.output, e3]
 ·have := hcore.size; rw [e3] at this; exact this
 ·intro k hk
  have := hcore.old k (by rw [e3]; exact hk) (fun h => h)
  rw [e3] at this; exact this
theorem keptBut_of_below {W W' : World} (h : Below W.heap.size W W') (may : MemPlace → Prop) : W.keptBut W' may := by
 refine ⟨h.os, h.output, fun i hi => ?_⟩
 rw [h.block i hi]
 cases W.heap[i]? with
 | none => trivial
 | some o =>
  cases o with
  | cells c t fr => exact ⟨rfl, rfl, rfl, fun _ _ => rfl⟩
  | map es clk => exact .inr ⟨rfl, rfl⟩
  | _ => rfl
end Go.Proofs.YteipiejlljnclaaGreatDoor
end
section
namespace Go.Proofs.YteipiejlljnclaaGreatDoor
open Go Go.AL Go.ChangeShapes Go.WideShapes Go.ChangeAt Go.WideMaps Go.WideElems Go.RowKit
theorem own_knob : ownKnob Tryz.prog.godebug = none := by kernel_rfl
theorem laid_out : laidOutB Tryz.prog = true := by kernel_rfl
theorem under22 : Tryz.prog.underlying 22 = some (.slice 3) := by kernel_rfl
theorem under3 : Tryz.prog.underlying 3 = some (.int .i64) := by kernel_rfl
theorem under4 : Tryz.prog.underlying 4 = some .bool := by kernel_rfl
theorem cells3 : Tryz.prog.cellsOf 3 = 1 := by kernel_rfl
theorem bytes3 : Tryz.prog.bytesOf 3 = 8 := by kernel_rfl
def laid3 : List (String × DataW Unit) := [("math/bits.deBruijn32tab", Rows.laid_math_bits_deBruijn32tab), ("math/bits.deBruijn64tab", Rows.laid_math_bits_deBruijn64tab), ("internal/strconv.uint64pow10", Rows.laid_internal_strconv_uint64pow10)]
set_option maxRecDepth 100000 in
theorem door_met (os : Os) (args : Array Value) : laidMetH Tryz.prog laid3 ((World.doorLaid Tryz.prog 24 os).forCall (fun _ _ => 0) ⟨#[], args, []⟩).memory :=
 laidMetH_of_parts3 (fuel := 8) (laidMet_of_run' 8 (by kernel_rfl) (by kernel_rfl)) (by kernel_rfl) (by kernel_rfl)
theorem and_t {a b : Bool} (ha : a = true) (hb : b = true) : (a && b) = true := by rw [ha, hb]; rfl
theorem rep_ints {W : World} {a : Addr} {len cap : Nat} {zs : List Int} (hsp : a.spot = none) (hl : len ≤ cap) (hz : zs.length = cap) (hcell : ∀ i, i < zs.length → W.cell? (a.add i) = some (.int .i64 (zs.getD i 0)))
  (A : Nat → Prop) (H : AV → Value → Prop) (hA : ∀ b, ¬ A b) : Rep W A H (.sl 1 (ints (zs.take len))) (.slice (some a) len cap) := by
 have hlen : (ints (zs.take len)).length = len := by simp [ints]; omega
 refine ⟨some a, cap, by rw [hlen], by rw [hlen]; exact hl, ?_⟩
 by_cases h0 : len = 0
 ·left
  subst h0
  simp [ints]
 ·right
  obtain ⟨b, o, sp⟩ := a
  simp only at hsp
  subst hsp
  have hadd : ∀ i, (Addr.add ⟨b, o, none⟩ i) = ⟨b, o + i, none⟩ := by
   intro i
   unfold Addr.add
   split
   ·rename_i e; subst e; rfl
   ·rfl
  have h1 := hcell 0 (by omega)
  rw [hadd] at h1
  have hb : b < W.heap.size := by
   refine Classical.byContradiction fun hn => ?_
   have hnone : W.heap[b]? = none := by simp; omega
   simp [World.cell?, hnone] at h1
  refine ⟨b, o, rfl, hA b, hb, RepRow.of_at fun i x hx => ?_⟩
  have hi : i < len := by
   have := (List.getElem?_eq_some_iff.1 hx).1
   omega
  have h2 := hcell i (by omega)
  rw [hadd] at h2
  have hxe : x = .sc (.int .i64 (zs.getD i 0)) := by
   have : (ints (zs.take len))[i]? = some (.sc (.int .i64 (zs.getD i 0))) := by
    simp [ints, List.getElem?_take, hi, List.getD, show i < zs.length by omega]
   rw [this] at hx
   exact (Option.some.inj hx).symm
  subst hxe
  refine ⟨.int .i64 (zs.getD i 0), rfl, fun j v hj => ?_, rfl, rfl⟩
  have hc : (Value.int .i64 (zs.getD i 0)).cells.toList = [.int .i64 (zs.getD i 0)] := rfl
  rw [hc] at hj
  cases j with
  | zero =>
   simp at hj
   subst hj
   refine ⟨rfl, ?_⟩
   rw [Nat.mul_one, Nat.add_zero]
   exact h2
  | succ j => simp at hj
theorem rep_nil (W : World) (A : Nat → Prop) (H : AV → Value → Prop) : Rep W A H (.sl 1 (ints [])) (.slice none 0 0) := ⟨none, 0, rfl, Nat.le_refl _, .inl rfl⟩
section
variable {f : FuncId} {fn : Func} {s : ChangeSpec} {H : Type} {enc : TypeId × Value → H}
set_option maxRecDepth 100000 in
theorem law_post (hp : fn.params = #[22]) (hr : fn.resultTypes = #[4]) (hv : s.vars = []) (hs : ∀ (H : Type) (d : DataW H), s.fn H [d] = { results := [.lit (.bool true)], args := [d] })
  (hC : ∀ l : List Int, l.length < 4611686018427387904 → CT f [idat l] { val := .sc (.bool true), args := [idat l] })
  (W : World) (args : Array Value) (ds gs : List (DataW H)) (before : List MemPlace)
  (hval : ∀ (j : Nat) t v, fn.params[j]? = some t → args[j]? = some v → Value.okWide Tryz.prog W .any 0 t v)
  (hW : DataW.Whole enc Tryz.prog fn.params.toList s.vars false W args.toList ds gs before)
  (hsz : (DataW.weightsEach Tryz.prog (fn.params.toList ++ s.plain.varTypes Tryz.prog) (ds ++ gs)).all (· ≤ reachBytes) = true) :
  Calls Tryz.prog f args W fun e W' => ∃ v, e = .returned v ∧ s.post enc Tryz.prog fn false true false false W args v W' := by
 have hW' := hW
 obtain ⟨p, q, hA0, hV, rfl, hfz, hnd⟩ := hW
 have hA : DataW.TrodAll enc Tryz.prog W 0 (fun _ => true) true fn.params.toList args.toList ds p := hA0
 rw [hp] at hA hval
 obtain ⟨v0, d0, rfl, rfl, h0⟩ := trodAll_one hA
 rw [hv] at hV
 obtain ⟨rfl, rfl⟩ := trodVars_none hV
 have h0k := h0
 obtain ⟨fuel, hf⟩ := h0
 have hok := hval 0 22 v0 rfl rfl
 have hlt : ∀ x ∈ p, x.block < W.heap.size := fun x hx => by simpa using hW'.lt x (by simpa using hx)
 have hfn : s.fn H ([d0] ++ []) = { results := [.lit (.bool true)], args := [d0] } := hs H d0
 -- the end, from what the call comes to
 have fin : ∀ l : List Int, l.length < 4611686018427387904 → (∀ (A : Nat → Prop) (K : AV → Value → Prop), (∀ b, ¬ A b) → Rep W A K (.sl 1 (ints l)) v0) →
   Calls Tryz.prog f #[v0] W fun e W' => ∃ v, e = .returned v ∧ s.post enc Tryz.prog fn false true false false W #[v0] v W' := by
  intro l hl hrep
  refine (law_run (ct_sem (hC l hl)) W v0 hrep).mono fun e W' ⟨he, hb⟩ => ?_
  refine ⟨.bool true, he, ?_⟩
  refine ⟨[d0], [], p ++ [], [], p, [], hW', ?_, ?_, ?_, keptBut_of_below hb _, fun h => by cases h⟩
  ·rw [hr, hfn]; exact trodAll_mk1 (shut_bool under4 true)
  ·rw [hp, hfn]; exact trodAll_mk1 (Below.trod laid_out (by kernel_rfl) (of_decide_eq_true (by kernel_rfl)) h0k hb hlt)
  ·rw [hv, hfn]; rfl
 obtain ⟨a0, len0, cap0, rfl⟩ := okWide_slice under22 hok
 have hf' : DataW.trod enc Tryz.prog W 0 (fun _ => true) true fuel 22 [.slice a0 len0 cap0] = some (d0, p) := by simpa [Value.cells] using hf
 rcases open_ints under22 under3 cells3 hf' with ⟨hc, hx⟩ | ⟨a, len, cap, zs, hc, hb, hl, hm, hzl, hx, hcell, hwf⟩
 ·simp only [List.cons.injEq, Value.slice.injEq, and_true] at hc
  obtain ⟨rfl, rfl, rfl⟩ := hc
  exact fin [] (by simp) fun A K _ => rep_nil W A K
 ·simp only [List.cons.injEq, Value.slice.injEq, and_true] at hc
  obtain ⟨rfl, rfl, rfl⟩ := hc
  simp only [if_true] at hzl
  have hd : d0 = .slice (lits .i64 (zs.take len0)) (lits .i64 (zs.drop len0)) := (Prod.mk.inj hx).1
  have hsl := sized_slice hsz (j := 0) (t := 22) (e := 3) (elems := lits .i64 (zs.take len0)) (spare := lits .i64 (zs.drop len0)) (by rw [hp]; rfl) (by rw [hd]; rfl) under22
  rw [bytes3] at hsl
  have hsp : a.spot = none := by
   have h2 : Cell.ok Tryz.prog W .any 0 22 (.slice (some a) len0 cap0) := by
    have := hok
    simp only [Value.okWide, under22, Cell.okWide] at this
    exact this
   simp only [Cell.ok, under22] at h2
   exact h2.2.2.2.1
  refine fin (zs.take len0) ?_ fun A K hA => rep_ints hsp hl hzl hcell A K hA
  have e1 : (lits (H := H) .i64 (zs.take len0)).length = (zs.take len0).length := by simp [lits]
  have e2 : reachBytes = 140737488351232 := rfl
  omega
end
end Go.Proofs.YteipiejlljnclaaGreatDoor
end
