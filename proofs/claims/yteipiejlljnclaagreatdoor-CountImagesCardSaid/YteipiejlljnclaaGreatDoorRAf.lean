/- The abstract layer, part 6: the operations that touch no memory do what the abstract ones say. No condition. -/
import Derived.Test.YteipiejlljnclaaGreatDoorRAa
import Derived.WalkKit
import Derived.WalkSpells
import Derived.DeepKeys
import Derived.DeepKeys3
import Derived.MapKept
import Derived.Laws.BytesArg
import Derived.Laws.BitsLemmas
import Derived.Laws.IdiomRangeMap
import Derived.Laws.StructEq
import Derived.Laws.Concat
set_option linter.unusedVariables false
set_option linter.unusedSectionVars false
set_option linter.unusedSimpArgs false
section
namespace Go.AL

section
variable {C : FuncId → List PA → CRes → Prop} {d : Bool} {σ : St} {rs rr : List Nat}
theorem RM.wp_bind {α β : Type} (m : RM α) (f : α → RM β) : ∀ {rs rr : List Nat} {K : β → List Nat → List Nat → Prop},
  (m.bind f).wp C d σ rs rr K ↔ m.wp C d σ rs rr fun a rs rr => (f a).wp C d σ rs rr K := by
 induction m with
 | ret a => exact Iff.rfl
 | slot t k ih => exact ih _
 | row r k ih => exact ih _
 | req p k ih => exact and_congr Iff.rfl ih
 | any k ih => exact and_congr Iff.rfl (forall_congr' fun b => ih b)
 | call f as k ih => exact exists_congr fun r => and_congr Iff.rfl (ih r)
 | fail => exact Iff.rfl
theorem wp_val {m : RM AV} {K : Eff → List Nat → List Nat → Prop} : (val m).wp C d σ rs rr K ↔ m.wp C d σ rs rr fun x rs rr => K { val := x } rs rr := RM.wp_bind m _
end

section
variable {P : Program} {t : TypeId}
theorem tyOf_ok (h : (tyOf P t).ok = true) : ∃ de i v, P.underlying t = some de ∧ P.info? t = some i ∧ i.zero = some v ∧ (tyOf P t).k = kindOf de ∧ (tyOf P t).size = i.size ∧ (tyOf P t).bytes = i.bytes ∧
  (tyOf P t).zero = ofValue v ∧ plainAll (ofValue v) = true ∧ (cellsOf (ofValue v)).length = i.size ∧ isAggAV (ofValue v) = (kindOf de).isAgg := by
 unfold tyOf at *
 cases hu : P.underlying t with
 | none => simp [hu] at h
 | some de =>
  cases hi : P.info? t with
  | none => simp [hu, hi] at h
  | some i =>
   cases hz : i.zero with
   | none => simp [hu, hi, hz] at h
   | some v =>
    simp only [hu, hi, hz, Bool.and_eq_true, beq_iff_eq] at h ⊢
    exact ⟨de, i, v, rfl, rfl, hz, rfl, rfl, rfl, rfl, h.1.1, h.1.2, h.2⟩
theorem tyOf_k (h : (tyOf P t).k ≠ .other) : ∃ de i, P.underlying t = some de ∧ P.info? t = some i ∧ (tyOf P t).k = kindOf de := by
 unfold tyOf at *
 cases hu : P.underlying t with
 | none => simp [hu] at h
 | some de =>
  cases hi : P.info? t with
  | none => simp [hu, hi] at h
  | some i =>
   cases hz : i.zero with
   | none => simp [hu, hi, hz] at h
   | some v => exact ⟨de, i, rfl, rfl, by simp [hu, hi, hz]⟩
theorem under_slice {e : TypeId} (h : (tyOf P t).k = .slice e) : P.underlying t = some (.slice e) := by
 obtain ⟨de, i, h1, h2, h3⟩ := tyOf_k (P := P) (t := t) (by rw [h]; simp)
 rw [h] at h3
 cases de <;> simp [kindOf] at h3
 rw [h1, h3]
theorem under_arr {n : Nat} {e : TypeId} (h : (tyOf P t).k = .arr n e) : P.underlying t = some (.array n e) := by
 obtain ⟨de, i, h1, h2, h3⟩ := tyOf_k (P := P) (t := t) (by rw [h]; simp)
 rw [h] at h3
 cases de <;> simp [kindOf] at h3
 rw [h1, h3.1, h3.2]
theorem under_map {k e : TypeId} (h : (tyOf P t).k = .map k e) : P.underlying t = some (.map k e) := by
 obtain ⟨de, i, h1, h2, h3⟩ := tyOf_k (P := P) (t := t) (by rw [h]; simp)
 rw [h] at h3
 cases de <;> simp [kindOf] at h3
 rw [h1, h3.1, h3.2]
theorem under_struct {fs : List (Nat × TypeId)} (h : (tyOf P t).k = .struct fs) : ∃ gs, P.underlying t = some (.struct gs) ∧ fs = gs.toList.map fun f => (f.offset, f.type) := by
 obtain ⟨de, i, h1, h2, h3⟩ := tyOf_k (P := P) (t := t) (by rw [h]; simp)
 rw [h] at h3
 cases de <;> simp [kindOf] at h3
 exact ⟨_, h1, h3⟩
theorem under_int {k : IntKind} (h : (tyOf P t).k = .int k) : P.underlying t = some (.int k) := by
 obtain ⟨de, i, h1, h2, h3⟩ := tyOf_k (P := P) (t := t) (by rw [h]; simp)
 rw [h] at h3
 cases de <;> simp [kindOf] at h3
 rw [h1, h3]
theorem under_bool (h : (tyOf P t).k = .bool) : P.underlying t = some .bool := by
 obtain ⟨de, i, h1, h2, h3⟩ := tyOf_k (P := P) (t := t) (by rw [h]; simp)
 rw [h] at h3
 cases de <;> simp [kindOf] at h3
 exact h1
theorem under_str (h : (tyOf P t).k = .str) : P.underlying t = some .string := by
 obtain ⟨de, i, h1, h2, h3⟩ := tyOf_k (P := P) (t := t) (by rw [h]; simp)
 rw [h] at h3
 cases de <;> simp [kindOf] at h3
 exact h1
theorem run_sizeOf_some {n : Nat} (h : sizeOf P t = some n) (w : World) : (Go.sizeOf t).run P w = .ok n w := by
 unfold sizeOf at h
 obtain ⟨i, hi, rfl⟩ := Option.map_eq_some_iff.1 h
 simp [Go.sizeOf, typeInfo, hi]
theorem isAgg_kind {de : TypeDesc} (h : P.underlying t = some de) (w : World) : (Go.isAgg t).run P w = .ok (kindOf de).isAgg w := by
 cases de <;> simp [Go.isAgg, run_underlying h, kindOf, TK.isAgg]
end

section
variable {P : Program} {C : FuncId → List PA → CRes → Prop} {d : Bool} {σ : St} {rs rr : List Nat} {w : World} {A : Nat → Prop} {H : AV → Value → Prop}
theorem Rep_ofCell {v : Value} : Rep w A H (ofCell v) v := by
 unfold ofCell
 split
 ·exact ⟨none, rfl⟩
 ·exact trivial
 ·exact trivial
 ·rename_i h1 h2 h3
  refine ⟨rfl, ?_⟩
  cases v <;> first | rfl | exact absurd rfl (h2 _) | exact absurd rfl (h3 _)
theorem RepL_ofCell : ∀ {l : List Value}, RepL w A H (l.map ofCell) l
 | [] => trivial
 | _ :: _ => ⟨Rep_ofCell, RepL_ofCell⟩
theorem Rep_ofValue {v : Value} : Rep w A H (ofValue v) v := by
 unfold ofValue
 split
 ·rename_i cs
  split
  ·rename_i h
   exact ⟨cs, rfl, fun x hx => List.all_eq_true.1 h x hx, RepL_ofCell⟩
  ·exact trivial
 ·exact Rep_ofCell
theorem cells_ofValue {v : Value} (h : ofValue v ≠ .junk) : (cellsOf (ofValue v)).length = v.cells.size := by
 unfold ofValue at *
 split
 ·rename_i cs
  split
  ·simp [cellsOf, Value.cells]
  ·rename_i hc; simp [hc] at h
 ·rename_i hc
  unfold ofCell at *
  split <;> rename_i h' <;> first | simp [cellsOf, Value.cells] | skip
  all_goals first
   | (exact absurd rfl (hc _))
   | (cases v <;> first | rfl | exact absurd rfl (hc _))

theorem Rep_int {k : IntKind} {n : Int} : Rep w A H (int k n) (.int k n) := ⟨rfl, rfl⟩
theorem Rep_bool {b : Bool} : Rep w A H (bool b) (.bool b) := ⟨rfl, rfl⟩
theorem Rep_str {s : ByteArray} : Rep w A H (.sc (.string s)) (.string s) := ⟨rfl, rfl⟩

theorem binInt_sound {op : BinOp} {t : TypeId} {k k' : IntKind} {a b : Int} {K : AV → List Nat → List Nat → Prop} (hk : k = k' ∨ shiftOp op = true) (h : (binInt op k a b).wp C d σ rs rr K) :
  ∃ av v, K av rs rr ∧ Rep w A H av v ∧ (binOp op t (.int k a) (.int k' b)).run P w = .ok v w := by
 cases op <;> simp only [shiftOp, Bool.false_eq_true, or_false] at hk <;> (try subst hk) <;> simp only [binInt, RM.wp, VC] at h
 case shl => exact ⟨_, _, h.2, Rep_int, by simp [binOp, Op.shift, show ¬ b < 0 from by omega]⟩
 case shr => exact ⟨_, _, h.2, Rep_int, by simp [binOp, Op.shift, show ¬ b < 0 from by omega]⟩
 case quo => exact ⟨_, _, h.2, Rep_int, by simp [binOp, Op.intDiv, h.1]⟩
 case rem => exact ⟨_, _, h.2, Rep_int, by simp [binOp, Op.intDiv, h.1]⟩
 case add => exact ⟨_, _, h, Rep_int, by simp [binOp, Op.intArith]⟩
 case sub => exact ⟨_, _, h, Rep_int, by simp [binOp, Op.intArith]⟩
 case mul => exact ⟨_, _, h, Rep_int, by simp [binOp, Op.intArith]⟩
 case and => exact ⟨_, _, h, Rep_int, by simp [binOp, Op.intBits, ibits]⟩
 case or => exact ⟨_, _, h, Rep_int, by simp [binOp, Op.intBits, ibits]⟩
 case xor => exact ⟨_, _, h, Rep_int, by simp [binOp, Op.intBits, ibits]⟩
 case andNot => exact ⟨_, _, h, Rep_int, by simp [binOp, Op.intBits, ibits]⟩
 all_goals exact ⟨_, _, h, Rep_bool, by simp [binOp, Op.intCmp]⟩

theorem ints_of {k : IntKind} : ∀ {cs : List AV}, cs.all (intOf1 k) = true → ∃ as : List Int, cs = as.map fun n => AV.sc (.int k n)
 | [], _ => ⟨[], rfl⟩
 | c :: cs, h => by
  simp only [List.all_cons, Bool.and_eq_true] at h
  obtain ⟨as, rfl⟩ := ints_of h.2
  unfold intOf1 at h
  split at h
  ·rename_i k' n
   have := h.1
   simp at this
   subst this
   exact ⟨n :: as, rfl⟩
  ·simp at h
theorem RepL_ints {k : IntKind} : ∀ {as : List Int} {vs : List Value}, RepL w A H (as.map fun n => AV.sc (.int k n)) vs → vs = as.map fun n => Value.int k n
 | [], [], _ => rfl
 | a :: as, v :: vs, h => by
  rw [List.map_cons, ← RepL_ints h.2, h.1.1]
 | [], _ :: _, h => h.elim
 | _ :: _, [], h => h.elim
theorem keysEq_ints {k k' : IntKind} : ∀ {as bs : List Int}, keysEq (as.map fun n => AV.sc (.int k n)) (bs.map fun n => AV.sc (.int k' n)) = (as == bs)
 | [], [] => rfl
 | [], _ :: _ => rfl
 | _ :: _, [] => rfl
 | a :: as, b :: bs => by
  simp only [List.map_cons, keysEq, keyEq1, keysEq_ints]
  rfl
theorem run_eqItems_ints (dd : Nat) {e : TypeId} {k : IntKind} (he : P.underlying e = some (.int k)) (hc : P.cellsOf e = 1) (as bs : List Int) (hl : as.length = bs.length) (w : World) :
  ∀ (m s : Nat), s + m = as.length → (Op.eqItems (dd + 1) e (P.cellsOf e) (as.map fun n => Value.int k n).toArray (bs.map fun n => Value.int k n).toArray (List.range' s m)).run P w = .ok (as.drop s == bs.drop s) w
 | 0, s, h => by
  rw [List.drop_eq_nil_of_le (by omega), List.drop_eq_nil_of_le (by omega)]
  simp [Op.eqItems]
 | m + 1, s, h => by
  have h1 : s < as.length := by omega
  have h2 : s < bs.length := by omega
  have hp : P.plainKey e = true := by simp [Program.plainKey, he]
  rw [List.range'_succ]
  simp only [Op.eqItems, Sem.run_bind, hc, Nat.mul_one]
  rw [run_part_plain w hp (v := .int k as[s]) (by simp [h1]), Result.andThen_ok, run_part_plain w hp (v := .int k bs[s]) (by simp [h2]), Result.andThen_ok]
  rw [show (Op.equalIn (dd + 1) e (Value.int k as[s]) (Value.int k bs[s])).run P w = .ok (as[s] == bs[s]) w from by simp [Op.equalIn, run_underlying he], Result.andThen_ok]
  have ih := run_eqItems_ints dd he hc as bs hl w m (s + 1) (by omega)
  rw [hc] at ih
  have e : (as.drop s == bs.drop s) = ((as[s] == bs[s]) && (as.drop (s + 1) == bs.drop (s + 1))) := by
   rw [List.drop_eq_getElem_cons h1, List.drop_eq_getElem_cons h2]; rfl
  rw [e]
  by_cases hab : as[s] = bs[s]
  ·simp only [hab, beq_self_eq_true, Bool.not_true, Bool.false_eq_true, if_false, ih, Bool.true_and]
  ·have : (as[s] == bs[s]) = false := by simpa using hab
   simp only [this, Bool.not_false, if_true, Sem.run_pure, Bool.false_and]
theorem kk_arr {t : TypeId} {n : Nat} {k : IntKind} (h : kkOf P t = .arr n k) : ∃ e i, P.underlying t = some (.array n e) ∧ P.underlying e = some (.int k) ∧ P.info? e = some i ∧ P.cellsOf e = 1 := by
 unfold kkOf at h
 cases hk : (tyOf P t).k with
 | arr m e =>
  simp only [hk] at h
  cases hke : (tyOf P e).k with
  | int k' =>
   simp only [hke] at h
   split at h
   ·rename_i hok
    obtain ⟨rfl, rfl⟩ := by simpa using h
    obtain ⟨de, i, v, h1, h2, h3, h4, h5, h6, h7, h8, h9, h10⟩ := tyOf_ok hok
    rw [hke] at h4
    refine ⟨e, i, under_arr hk, under_int hke, h2, ?_⟩
    rw [← h4] at h10
    simp only [TK.isAgg] at h10
    have : (cellsOf (ofValue v)).length = 1 := by
     cases hv : ofValue v <;> simp [hv, isAggAV] at h10 <;> rfl
    simp [Program.cellsOf, h2]
    omega
   ·simp at h
  | _ => simp [hke] at h
 | int k' => simp [hk] at h
 | str => simp [hk] at h
 | _ => simp [hk] at h
theorem run_equal_ints {t : TypeId} {n : Nat} {k : IntKind} (h : kkOf P t = .arr n k) (as bs : List Int) (ha : as.length = n) (hb : bs.length = n) (dd : Nat) (w : World) :
  (Op.equalIn (dd + 2) t (.agg (as.map fun n => Value.int k n).toArray) (.agg (bs.map fun n => Value.int k n).toArray)).run P w = .ok (as == bs) w := by
 obtain ⟨e, i, h1, h2, h3, h4⟩ := kk_arr h
 rw [run_equalIn_array w (dd + 1) _ _ h1 h3, List.range_eq_range', run_eqItems_ints dd h2 h4 as bs (by omega) w n 0 (by omega)]
 simp
theorem eqGuard_ints {t : TypeId} {n : Nat} {k : IntKind} (h : kkOf P t = .arr n k) (op : BinOp) (x y : Operand) (as bs : Array Value) (w : World) : (eqGuard op t x y (.agg as) (.agg bs)).run P w = .ok () w := by
 obtain ⟨e, i, h1, h2, h3, h4⟩ := kk_arr h
 have hd : P.eqGuardType P.depth t = false := by
  have : ∃ m, P.depth = m + 2 := ⟨2 * (P.types.size + Made.depth), rfl⟩
  obtain ⟨m, hm⟩ := this
  rw [hm]
  simp [Program.eqGuardType, h1, h2]
 unfold eqGuard
 cases op <;> simp [hd]

theorem eqGuard_plain {op : BinOp} {t : TypeId} {x y : Operand} {a b : Value} {w : World} (ha : ∀ cs, a ≠ .agg cs) (hn : a ≠ .nilIface) : (eqGuard op t x y a b).run P w = .ok () w := by
 unfold eqGuard
 cases op <;> simp <;> cases a <;> simp_all

theorem kkOf_agg {t : TypeId} {cs : List AV} (h : keyOK (kkOf P t) (.agg cs) = true) : ∃ (n : Nat) (k : IntKind) (as : List Int), kkOf P t = .arr n k ∧ as.length = n ∧ cs = as.map fun n => AV.sc (.int k n) := by
 cases hk : kkOf P t with
 | arr n k =>
  rw [hk] at h
  simp only [keyOK, Bool.and_eq_true, beq_iff_eq] at h
  obtain ⟨as, rfl⟩ := ints_of h.2
  exact ⟨n, k, as, rfl, by simpa using h.1, rfl⟩
 | _ => rw [hk] at h; simp [keyOK, intOf1] at h

variable (N : Nat → Prop) (rows : Rows) (Φ : Nat → Loc)
theorem slice_of_data {es : Nat} {xs : List AV} {v : Value} (h : Rep w A H (.sl es xs) v) : ∃ a cap, v = .slice a xs.length cap ∧ (a = none → xs.length = 0) := by
 obtain ⟨a, cap, e, hc, h⟩ := h
 refine ⟨a, cap, e, fun ha => ?_⟩
 rcases h with rfl | ⟨b, o, hb, _⟩
 ·rfl
 ·rw [ha] at hb; cases hb
theorem binNil_sound {op : BinOp} {t e : TypeId} {n : Nat} {a : Option Addr} {cap : Nat} {K : AV → List Nat → List Nat → Prop} (ht : P.underlying t = some (.slice e)) (ha : a = none → n = 0)
  (h : (binNil op n).wp C d σ rs rr K) (w : World) (a' : Option Addr) (ha' : a' = none) (c' : Nat) :
  ∃ av v, K av rs rr ∧ Rep w A H av v ∧ (binOp op t (.slice a n cap) (.slice a' 0 c')).run P w = .ok v w := by
 subst ha'
 unfold binNil at h
 cases op <;> simp only [] at h <;> try exact h.elim
 ·refine ⟨bool a.isNone, .bool a.isNone, ?_, Rep_bool, Lib.run_eql_slice_nil w t e a n cap 0 c' ht⟩
  split at h
  ·exact h.2 _
  ·rename_i hn
   have : a.isNone = false := by cases a with | none => exact absurd (ha rfl) hn | some _ => rfl
   rw [this]; exact h
 ·refine ⟨bool (!a.isNone), .bool (!a.isNone), ?_, Rep_bool, run_neq_slice_nil_any w t e a n cap 0 c' ht⟩
  split at h
  ·exact h.2 _
  ·rename_i hn
   have : a.isNone = false := by cases a with | none => exact absurd (ha rfl) hn | some _ => rfl
   rw [this]; exact h
end
end Go.AL
end
section
namespace Go.AL

def Frz (rows ρ : Rows) : Prop := ∀ r, lget ρ r = lget rows r ∨ ∃ w es xs, lget rows r = some w ∧ w.body = .cells es xs ∧ lget ρ r = some { w with own := false }
def FrzW (rows : Rows) (wr : Wr) : Prop := ∀ p ∈ wr, ∃ w es xs, lget rows p.1 = some w ∧ w.body = .cells es xs ∧ p.2 = { w with own := false }
theorem Frz.refl (rows : Rows) : Frz rows rows := fun _ => .inl rfl
theorem Frz.get {rows ρ : Rows} (h : Frz rows ρ) {r : Nat} {w : Row} (hw : lget rows r = some w) : ∃ o, lget ρ r = some { w with own := o } ∧ (o = true → w.own = true) := by
 rcases h r with h | ⟨w', es, xs, h1, h2, h3⟩
 ·exact ⟨w.own, by rw [h, hw], id⟩
 ·rw [hw] at h1
  obtain rfl := Option.some.inj h1
  exact ⟨false, h3, fun e => by cases e⟩
theorem Frz.back {rows ρ : Rows} (h : Frz rows ρ) {r : Nat} {w : Row} (hw : lget ρ r = some w) : ∃ w', lget rows r = some w' ∧ w = { w' with own := w.own } ∧ (w.own = true → w' = w) ∧ (w' = w ∨ ∃ es xs, w.body = .cells es xs) := by
 rcases h r with h | ⟨w', es, xs, h1, h2, h3⟩
 ·exact ⟨w, by rw [← h, hw], rfl, fun _ => rfl, .inl rfl⟩
 ·rw [hw] at h3
  obtain rfl := Option.some.inj h3
  exact ⟨w', h1, rfl, (fun e => by cases e), .inr ⟨es, xs, h2⟩⟩

section
variable {N PO : Nat → Prop} {w0 : Base} {w : World} {env : Env} {rows ρ : Rows} {ce : Nat → Value} {Φ : Nat → Loc}
theorem Frz.hd (h : Frz rows ρ) (av : AV) (v : Value) (hd : Hd rows Φ w av v) : Hd ρ Φ w av v := by
 cases av with
 | hs p o n =>
  obtain ⟨a, cap, e, hc, hz, row0, h0, hg, hh⟩ := hd
  obtain ⟨ow, h1, h2⟩ := h.get h0
  refine ⟨a, cap, e, hc, hz, _, h1, hg, fun eg es xs hb => ?_⟩
  have := hh eg es xs hb
  cases hp : Φ p.r with
  | none => rw [hp] at this; exact this
  | some x =>
   rw [hp] at this
   exact ⟨this.1, fun ho => this.2 (h2 ho)⟩
 | hp p i j =>
  obtain ⟨a, e, row0, h0, hg, hh⟩ := hd
  obtain ⟨ow, h1, h2⟩ := h.get h0
  exact ⟨a, e, _, h1, hg, fun eg es xs hb => hh eg es xs hb⟩
 | hm p =>
  obtain ⟨m, e, row0, h0, hg, hh⟩ := hd
  obtain ⟨ow, h1, h2⟩ := h.get h0
  exact ⟨m, e, _, h1, hg, fun eg => hh eg⟩
 | _ => exact hd.elim
theorem Frz.av (h : Frz rows ρ) {b : Nat} (ha : Av N ρ Φ b) : Av N rows Φ b := by
 rcases ha with hn | ⟨r, row, o, h1, h2, h3⟩
 ·exact .inl hn
 ·obtain ⟨w', g1, g2, g3, g4⟩ := h.back h1
  exact .inr ⟨r, w', o, g1, by rw [g3 h2]; exact h2, h3⟩
theorem Frz.rep (h : Frz rows ρ) {av : AV} {v : Value} (hr : Rep w (Av N rows Φ) (Hd rows Φ w) av v) : Rep w (Av N ρ Φ) (Hd ρ Φ w) av v :=
 Rep.mono (fun b hA hb => ⟨rfl, fun h' => hA (h.av h')⟩) (Nat.le_refl _) h.hd hr
theorem Frz.repN (h : Frz rows ρ) {av : AV} {v : Value} (hr : Rep w (Av N rows Φ) noH av v) : Rep w (Av N ρ Φ) noH av v :=
 Rep.mono (fun b hA hb => ⟨rfl, fun h' => hA (h.av h')⟩) (Nat.le_refl _) (fun _ _ h => h) hr
theorem Frz.core (h : Frz rows ρ) (hc : Core N PO w0 ⟨env, rows⟩ ce w Φ) : Core N PO w0 ⟨env, ρ⟩ ce w Φ := by
 refine ⟨hc.os, hc.tape, hc.output, hc.size, hc.old, hc.nlt, hc.grows, fun r row hr hg0 => ?_, fun t => h.rep (hc.env t), fun r row hr => ?_, ?_, ?_⟩
 ·obtain ⟨w', g1, g2, g3, g4⟩ := h.back hr
  have hgg : w'.gen = 0 := by rw [g2] at hg0; exact hg0
  obtain ⟨k1, row0, k2, k3, k4⟩ := hc.gen0 r w' g1 hgg
  exact ⟨k1, row0, k2, by rw [g2]; exact k3, by rw [g2]; exact k4⟩
 ·obtain ⟨w', g1, g2, g3, g4⟩ := h.back hr
  have hrr := hc.rows r w' g1
  have hbody : row.body = w'.body := by rw [g2]
  have hbox : row.box = w'.box := by rw [g2]
  unfold RowRel at hrr ⊢
  rw [hbody, hbox]
  split at hrr
  ·rename_i es xs hb
   cases hp : Φ r with
   | none => rw [hp] at hrr; exact hrr
   | some x =>
    obtain ⟨b, ob⟩ := x
    rw [hp] at hrr
    obtain ⟨h1, h2, h3, h4⟩ := hrr
    refine ⟨RepRow.mono (fun b hA hb => ⟨rfl, fun h' => hA (h.av h')⟩) (Nat.le_refl _) ?_ rfl h1, h2, fun ho => ?_, fun ho => h4 (by rw [g3 ho]; exact ho)⟩
    ·intro av v hv
     split at hv
     ·rename_i hbx; rw [if_pos hbx]; exact h.hd av v hv
     ·exact hv.elim
    ·by_cases hw' : w'.own = true
     ·rintro (hn | ⟨r2, row2, o2, k1, k2, k3⟩)
      ·exact (hc.mine r w' b ob g1 hw' hp).1 hn
      ·obtain ⟨w2, q1, q2, q3, q4⟩ := h.back k1
       have : r2 = r := hc.inj _ _ _ _ b _ _ q1 g1 (by rw [q3 k2]; exact k2) hw' k3 hp
       subst this
       rw [hr] at k1
       obtain rfl := Option.some.inj k1
       rw [ho] at k2
       cases k2
     ·exact fun h' => h3 (by simpa using hw') (h.av h')
  ·rename_i kk ents hb
   obtain ⟨b, es, clk, hp, hh, ho, hbx, he⟩ := hrr
   refine ⟨b, es, clk, hp, hh, ?_, hbx, EntsRel.mono (fun b hA hb => ⟨rfl, fun h' => hA (h.av h')⟩) (Nat.le_refl _) he⟩
   rcases g4 with rfl | ⟨es', xs', hb'⟩
   ·exact ho
   ·rw [hbody, hb] at hb'; cases hb'
 ·intro r r' row row' b o o' h1 h2 h3 h4 h5 h6
  obtain ⟨w1, g1, _, g3, _⟩ := h.back h1
  obtain ⟨w2, k1, _, k3, _⟩ := h.back h2
  exact hc.inj r r' w1 w2 b o o' g1 k1 (by rw [g3 h3]; exact h3) (by rw [k3 h4]; exact h4) h5 h6
 ·intro r row b o h1 h2 h3
  obtain ⟨w1, g1, _, g3, _⟩ := h.back h1
  exact hc.mine r w1 b o g1 (by rw [g3 h2]; exact h2) h3
theorem FrzW.put : ∀ {wr : Wr} {ρ : Rows}, FrzW rows wr → Frz rows ρ → Frz rows (putRows ρ wr)
 | [], _, _, h => h
 | (r, row) :: l, ρ, hw, h => by
  refine FrzW.put (wr := l) (fun p hp => hw p (.tail _ hp)) fun k => ?_
  obtain ⟨w', es, xs, h1, h2, h3⟩ := hw (r, row) (.head _)
  by_cases hk : k = r
  ·subst hk
   rw [lget_lput_same]
   exact .inr ⟨w', es, xs, h1, h2, by rw [← h3]⟩
  ·rw [lget_lput_ne _ hk]
   exact h k
theorem FrzW.get : ∀ {wr : Wr} {ρ : Rows}, FrzW rows wr → ∀ {r : Nat} {row : Row}, ((r, row) ∈ wr ∨ (lget ρ r = some row ∧ ∃ w es xs, lget rows r = some w ∧ w.body = .cells es xs ∧ row = { w with own := false })) → lget (putRows ρ wr) r = some row
 | [], _, _, _, _, h => by
  rcases h with h | h
  ·cases h
  ·exact h.1
 | (k, rk) :: l, ρ, hw, r, row, h => by
  have hl : FrzW rows l := fun p hp => hw p (.tail _ hp)
  refine FrzW.get (wr := l) hl ?_
  rcases h with h | ⟨h1, w', es, xs, h2, h3, h4⟩
  ·rcases List.mem_cons.1 h with h | h
   ·obtain ⟨rfl, rfl⟩ := by simpa using h
    exact .inr ⟨lget_lput_same _ _ _, hw _ (.head _)⟩
   ·exact .inl h
  ·by_cases hk : r = k
   ·subst hk
    obtain ⟨w2, es2, xs2, g1, g2, g3⟩ := hw (r, rk) (.head _)
    rw [h2] at g1
    obtain rfl := Option.some.inj g1
    refine .inr ⟨by rw [lget_lput_same]; congr 1; rw [h4]; exact g3, w', es, xs, h2, h3, h4⟩
   ·exact .inr ⟨by rw [lget_lput_ne _ hk]; exact h1, w', es, xs, h2, h3, h4⟩
theorem FrzW.append {a b : Wr} (ha : FrzW rows a) (hb : FrzW rows b) : FrzW rows (a ++ b) := fun p hp => by
 rcases List.mem_append.1 hp with h | h
 ·exact ha p h
 ·exact hb p h
theorem FrzW.nil : FrzW rows [] := fun _ h => by cases h

def Given (w : World) (N : Nat → Prop) (rows : Rows) (Φ : Nat → Loc) (wr : Wr) (y : AV) (v : Value) : Prop :=
 ∀ ρ, Frz rows ρ → (∀ r row, (r, row) ∈ wr → lget ρ r = some row) → (∀ r row, lget ρ r = some row → RowRel w N ρ Φ r row) → Rep w (Av N ρ Φ) noH y v
variable {C : FuncId → List PA → CRes → Prop} {d : Bool} {rs rr : List Nat}
theorem take_drop_length {xs : List AV} {o n : Nat} (h : o + n ≤ xs.length) : ((xs.drop o).take n).length = n := by simp; omega
theorem giveUp_sound {av : AV} {v : Value} {K : AV × Wr → List Nat → List Nat → Prop} (hrow : ∀ r row, lget rows r = some row → RowRel w N rows Φ r row)
  (hv : Rep w (Av N rows Φ) (Hd rows Φ w) av v) (h : (giveUp av).wp C d ⟨env, rows⟩ rs rr K) :
  ∃ y wr rs' rr', K (y, wr) rs' rr' ∧ FrzW rows wr ∧ v.oneCell' = true ∧ isAggAV y = false ∧ Given w N rows Φ wr y v := by
 cases av with
 | hs p o n =>
  obtain ⟨a, cap, rfl, hc, hz, row, h0, hg, hh⟩ := hv
  simp only [giveUp, rd, RM.wp, h0] at h
  split at h
  ·rename_i hgen
   split at h
   ·rename_i es xs hb
    split at h
    ·exact h.elim
    ·rename_i hbox
     obtain ⟨hlen, hK⟩ := h
     have hlen : o + n ≤ xs.length := hlen
     have hh := hh hgen es xs hb
     refine ⟨_, _, _, _, hK, ?_, rfl, rfl, ?_⟩
     ·intro q hq
      split at hq
      ·obtain rfl := List.mem_singleton.1 hq
       exact ⟨row, es, xs, h0, hb, rfl⟩
      ·cases hq
     ·intro ρ hρ hwr hrows
      have hρr : lget ρ p.r = some { row with own := false } := by
       by_cases ho : row.own = true
       ·exact hwr p.r _ (by rw [if_pos ho]; exact .head _)
       ·obtain ⟨o', h1, h2⟩ := hρ.get h0
        have : o' = false := by cases o' with | false => rfl | true => exact absurd (h2 rfl) ho
        rw [this] at h1; exact h1
      have hrr := hrows p.r _ hρr
      unfold RowRel at hrr
      simp only [hb] at hrr
      refine ⟨a, cap, by rw [take_drop_length hlen], by rw [take_drop_length hlen]; exact hc, ?_⟩
      cases hp : Φ p.r with
      | none =>
       rw [hp] at hrr
       exact .inl (by rw [hrr.1]; simp)
      | some x =>
       obtain ⟨b, ob⟩ := x
       rw [hp] at hrr hh
       obtain ⟨h1, h2, h3, h4⟩ := hrr
       rw [if_neg (by simpa using hbox)] at h1
       rcases hh.1 with h0 | ha
       ·exact .inl (List.eq_nil_of_length_eq_zero (by rw [take_drop_length hlen]; omega))
       ·exact .inr ⟨b, ob + o * es, ha, h3 trivial, h2, (h1.drop o).take n⟩
   ·exact h.elim
  ·exact h.elim
 | sc x =>
  refine ⟨_, _, _, _, h, FrzW.nil, ?_, rfl, fun ρ hρ _ _ => hv⟩
  rw [hv.1]; exact hv.2
 | nil =>
  obtain ⟨a, rfl⟩ := hv
  exact ⟨_, _, _, _, h, FrzW.nil, rfl, rfl, fun ρ hρ _ _ => ⟨a, rfl⟩⟩
 | sl es xs =>
  refine ⟨_, _, _, _, h, FrzW.nil, ?_, rfl, fun ρ hρ _ _ => ?_⟩
  ·obtain ⟨a, cap, rfl, _⟩ := hv; rfl
  ·have hv' : Rep w (Av N rows Φ) noH (.sl es xs) v := by simpa only [Rep] using hv
   exact hρ.repN hv'
 | dp es xs i j =>
  refine ⟨_, _, _, _, h, FrzW.nil, ?_, rfl, fun ρ hρ _ _ => ?_⟩
  ·obtain ⟨b, o, rfl, _⟩ := hv; rfl
  ·have hv' : Rep w (Av N rows Φ) noH (.dp es xs i j) v := by simpa only [Rep] using hv
   exact hρ.repN hv'
 | cl f cs =>
  refine ⟨_, _, _, _, h, FrzW.nil, ?_, rfl, fun ρ hρ _ _ => ?_⟩
  ·obtain ⟨vs, rfl, _⟩ := hv; rfl
  ·have hv' : Rep w (Av N rows Φ) noH (.cl f cs) v := by simpa only [Rep] using hv
   exact hρ.repN hv'
 | hp p i j => exact h.elim
 | hm p => exact h.elim
 | nst => exact h.elim
 | it => exact h.elim
 | junk => exact h.elim
 | tup cs => exact h.elim
 | agg cs => exact h.elim
theorem plain_noH {A : Nat → Prop} {H : AV → Value → Prop} : ∀ {x : AV} {v : Value}, plainCell x = true → Rep w A H x v → Rep w A noH x v
 | .sc _, _, _, h => h
 | .nil, _, _, h => h
 | .sl .., _, _, h => by simpa only [Rep] using h
 | .dp .., _, _, h => by simpa only [Rep] using h
 | .junk, _, e, _ | .agg _, _, e, _ | .tup _, _, e, _ | .hp .., _, e, _ | .hs .., _, e, _ | .hm _, _, e, _ | .nst, _, e, _ | .it, _, e, _ | .cl .., _, e, _ => by cases e
theorem plainL_noH {A : Nat → Prop} {H : AV → Value → Prop} : ∀ {xs : List AV} {vs : List Value}, xs.all plainCell = true → RepL w A H xs vs → RepL w A noH xs vs
 | [], [], _, _ => trivial
 | x :: xs, v :: vs, e, h => by
  simp only [List.all_cons, Bool.and_eq_true] at e
  exact ⟨plain_noH e.1 h.1, plainL_noH e.2 h.2⟩
 | [], _ :: _, _, h => h.elim
 | _ :: _, [], _, h => h.elim
theorem plainA_noH {A : Nat → Prop} {H : AV → Value → Prop} {x : AV} {v : Value} (e : plainAll x = true) (h : Rep w A H x v) : Rep w A noH x v := by
 cases x with
 | agg cs => obtain ⟨vs, e1, h1, h2⟩ := h; exact ⟨vs, e1, h1, plainL_noH e h2⟩
 | _ => exact plain_noH e h
theorem frzBox_sound {av : AV} {v : Value} {K : AV × Wr → List Nat → List Nat → Prop} (hrow : ∀ r row, lget rows r = some row → RowRel w N rows Φ r row)
  (hv : Rep w (Av N rows Φ) (Hd rows Φ w) av v) (h : (frzBox av).wp C d ⟨env, rows⟩ rs rr K) :
  ∃ y wr rs' rr', K (y, wr) rs' rr' ∧ FrzW rows wr ∧ Given w N rows Φ wr y v := by
 cases av with
 | hp p i j =>
  obtain ⟨a, rfl, row, h0, hg, hh⟩ := hv
  simp only [frzBox, rd, RM.wp, h0] at h
  split at h
  ·rename_i hgen
   split at h
   ·rename_i es x hb
    split at h
    ·rename_i hbx
     simp only [Bool.and_eq_true] at hbx
     obtain ⟨hij, hK⟩ := h
     obtain ⟨rfl, rfl⟩ : i = 0 ∧ j = 0 := hij
     obtain ⟨b, ob, hp, rfl⟩ := hh hgen es [x] hb
     refine ⟨_, _, _, _, hK, ?_, ?_⟩
     ·intro q hq
      split at hq
      ·obtain rfl := List.mem_singleton.1 hq
       exact ⟨row, es, [x], h0, hb, rfl⟩
      ·cases hq
     ·intro ρ hρ hwr hrows
      have hρr : lget ρ p.r = some { row with own := false } := by
       by_cases ho : row.own = true
       ·exact hwr p.r _ (by rw [if_pos ho]; exact .head _)
       ·obtain ⟨o', h1, h2⟩ := hρ.get h0
        have : o' = false := by cases o' with | false => rfl | true => exact absurd (h2 rfl) ho
        rw [this] at h1; exact h1
      have hrr := hrows p.r _ hρr
      unfold RowRel at hrr
      simp only [hb, hp] at hrr
      obtain ⟨h1, h2, h3, h4⟩ := hrr
      obtain ⟨⟨u, k1, k2, k3⟩, _⟩ := h1
      rw [if_pos hbx.1] at k3
      exact ⟨b, ob, rfl, h3 trivial, h2, ⟨u, k1, k2, plainA_noH hbx.2 k3⟩, trivial⟩
    ·exact h.elim
   ·exact h.elim
  ·exact h.elim
 | _ => exact h.elim
theorem frzL_sound (hrow : ∀ r row, lget rows r = some row → RowRel w N rows Φ r row) : ∀ {cs : List AV} {vs : List Value} {rs rr : List Nat} {K : List AV × Wr → List Nat → List Nat → Prop},
  RepL w (Av N rows Φ) (Hd rows Φ w) cs vs → (frzL cs).wp C d ⟨env, rows⟩ rs rr K →
  ∃ ys wr rs' rr', K (ys, wr) rs' rr' ∧ FrzW rows wr ∧
   ∀ ρ, Frz rows ρ → (∀ r row, (r, row) ∈ wr → lget ρ r = some row) → (∀ r row, lget ρ r = some row → RowRel w N ρ Φ r row) → RepL w (Av N ρ Φ) noH ys vs
 | [], [], _, _, _, _, h => ⟨_, _, _, _, h, FrzW.nil, fun _ _ _ _ => trivial⟩
 | c :: cs, v :: vs, rs, rr, K, hv, h => by
  rw [frzL, RM.wp_bind] at h
  obtain ⟨y, wr, rs1, rr1, h, hw1, hg1⟩ := frzBox_sound hrow hv.1 h
  rw [RM.wp_bind] at h
  obtain ⟨ys, wr2, rs2, rr2, h, hw2, hg2⟩ := frzL_sound hrow hv.2 h
  refine ⟨_, _, _, _, h, hw1.append hw2, fun ρ hρ hwr hr => ?_⟩
  exact ⟨hg1 ρ hρ (fun r row hm => hwr r row (List.mem_append.2 (.inl hm))) hr, hg2 ρ hρ (fun r row hm => hwr r row (List.mem_append.2 (.inr hm))) hr⟩
 | [], _ :: _, _, _, _, hv, _ => hv.elim
 | _ :: _, [], _, _, _, hv, _ => hv.elim
theorem giveUpL_sound (hrow : ∀ r row, lget rows r = some row → RowRel w N rows Φ r row) : ∀ {cs : List AV} {vs : List Value} {rs rr : List Nat} {K : List AV × Wr → List Nat → List Nat → Prop},
  RepL w (Av N rows Φ) (Hd rows Φ w) cs vs → (giveUpL cs).wp C d ⟨env, rows⟩ rs rr K →
  ∃ ys wr rs' rr', K (ys, wr) rs' rr' ∧ FrzW rows wr ∧ (∀ x ∈ vs, x.oneCell' = true) ∧ ys.length = cs.length ∧
   ∀ ρ, Frz rows ρ → (∀ r row, (r, row) ∈ wr → lget ρ r = some row) → (∀ r row, lget ρ r = some row → RowRel w N ρ Φ r row) → RepL w (Av N ρ Φ) noH ys vs
 | [], [], _, _, _, _, h => ⟨_, _, _, _, h, FrzW.nil, (fun _ h => by cases h), rfl, fun _ _ _ _ => trivial⟩
 | c :: cs, v :: vs, rs, rr, K, hv, h => by
  rw [giveUpL, RM.wp_bind] at h
  obtain ⟨y, wr, rs1, rr1, h, hw1, ho1, _, hg1⟩ := giveUp_sound hrow hv.1 h
  rw [RM.wp_bind] at h
  obtain ⟨ys, wr2, rs2, rr2, h, hw2, ho2, hl2, hg2⟩ := giveUpL_sound hrow hv.2 h
  refine ⟨_, _, _, _, h, hw1.append hw2, ?_, by simp [hl2], fun ρ hρ hwr hr => ?_⟩
  ·intro x hx
   rcases List.mem_cons.1 hx with rfl | hx
   ·exact ho1
   ·exact ho2 x hx
  ·exact ⟨hg1 ρ hρ (fun r row hm => hwr r row (List.mem_append.2 (.inl hm))) hr, hg2 ρ hρ (fun r row hm => hwr r row (List.mem_append.2 (.inr hm))) hr⟩
 | [], _ :: _, _, _, _, hv, _ => hv.elim
 | _ :: _, [], _, _, _, hv, _ => hv.elim
theorem giveUpA_sound {av : AV} {v : Value} {K : AV × Wr → List Nat → List Nat → Prop} (hrow : ∀ r row, lget rows r = some row → RowRel w N rows Φ r row)
  (hv : Rep w (Av N rows Φ) (Hd rows Φ w) av v) (h : (giveUpA av).wp C d ⟨env, rows⟩ rs rr K) :
  ∃ y wr rs' rr', K (y, wr) rs' rr' ∧ FrzW rows wr ∧ (∀ x ∈ v.cells.toList, x.oneCell' = true) ∧ isAggAV y = isAggAV av ∧ (isAggAV y = true ↔ ∃ vs, v = .agg vs) ∧ v.cells.size = (cellsOf y).length ∧ Given w N rows Φ wr y v := by
 by_cases hag : ∃ cs, av = .agg cs
 ·obtain ⟨cs, rfl⟩ := hag
  obtain ⟨vs, rfl, h1, h2⟩ := hv
  rw [giveUpA, RM.wp_bind] at h
  obtain ⟨ys, wr, rs', rr', h, hw, ho, hl, hg⟩ := giveUpL_sound hrow h2 h
  refine ⟨_, _, _, _, h, hw, ho, rfl, ⟨fun _ => ⟨vs, rfl⟩, fun _ => rfl⟩, ?_, fun ρ hρ hwr hr => ⟨vs, rfl, h1, hg ρ hρ hwr hr⟩⟩
  simp only [Value.cells, cellsOf]
  rw [hl, h2.length]; simp
 ·have h' : (giveUp av).wp C d ⟨env, rows⟩ rs rr K := by
   cases av <;> first | exact h | exact absurd ⟨_, rfl⟩ hag
  obtain ⟨y, wr, rs', rr', h, hw, ho, hy, hg⟩ := giveUp_sound hrow hv h'
  refine ⟨y, wr, rs', rr', h, hw, ?_, ?_, ?_, ?_, hg⟩
  ·intro x hx
   have e : v.cells.toList = [v] := by cases v <;> first | rfl | (simp [Value.oneCell'] at ho)
   rw [e] at hx
   obtain rfl := List.mem_singleton.1 hx
   exact ho
  ·cases av <;> first | exact hy | exact absurd ⟨_, rfl⟩ hag
  ·rw [hy]
   refine ⟨(fun e => by cases e), ?_⟩
   rintro ⟨vs, rfl⟩
   simp [Value.oneCell'] at ho
  ·have : (cellsOf y).length = 1 := by cases y <;> simp [isAggAV] at hy <;> rfl
   rw [this]
   cases v <;> first | rfl | (simp [Value.oneCell'] at ho)
end
theorem canonCells_rep {w : World} {A : Nat → Prop} {H : AV → Value → Prop} {slcs : List (Nat × Nat)} : ∀ {cs : List AV} {j : Nat} {vs : List Value}, RepL w A H cs vs → RepL w A H (canonCells slcs j cs) vs
 | [], _, [], _ => trivial
 | [], _, _ :: _, h => h.elim
 | c :: cs, j, [], h => by cases c <;> exact h.elim
 | c :: cs, j, v :: vs, h => by
  cases c with
  | nil =>
   obtain ⟨⟨a, rfl⟩, h2⟩ := h
   exact ⟨⟨a, 0, rfl, Nat.le_refl _, .inl rfl⟩, canonCells_rep h2⟩
  | _ => exact ⟨h.1, canonCells_rep h.2⟩
theorem canonCells_len {slcs : List (Nat × Nat)} : ∀ (cs : List AV) (j : Nat), (canonCells slcs j cs).length = cs.length
 | [], _ => rfl
 | c :: cs, j => by cases c <;> simp [canonCells, canonCells_len cs]
theorem canonA_rep {w : World} {A : Nat → Prop} {H : AV → Value → Prop} {slcs : List (Nat × Nat)} {x : AV} {v : Value} (h : Rep w A H x v) : Rep w A H (canonA slcs x) v := by
 cases x with
 | agg cs => obtain ⟨vs, rfl, h1, h2⟩ := h; exact ⟨vs, rfl, h1, canonCells_rep h2⟩
 | nil => obtain ⟨a, rfl⟩ := h; exact ⟨a, 0, rfl, Nat.le_refl _, .inl rfl⟩
 | _ => exact h
theorem canonA_agg (slcs : List (Nat × Nat)) (x : AV) : isAggAV (canonA slcs x) = isAggAV x := by cases x <;> rfl
theorem canonA_len (slcs : List (Nat × Nat)) (x : AV) : (cellsOf (canonA slcs x)).length = (cellsOf x).length := by
 cases x <;> first | rfl | exact canonCells_len _ _
section
variable {N PO : Nat → Prop} {w0 : Base} {w : World} {env : Env} {rows : Rows} {Φ : Nat → Loc} {C : FuncId → List PA → CRes → Prop} {d : Bool} {rs rr : List Nat}
theorem giveT_sound {slcs : List (Nat × Nat)} {av : AV} {v : Value} {K : AV × Wr → List Nat → List Nat → Prop} (hrow : ∀ r row, lget rows r = some row → RowRel w N rows Φ r row)
  (hv : Rep w (Av N rows Φ) (Hd rows Φ w) av v) (h : (giveT slcs av).wp C d ⟨env, rows⟩ rs rr K) :
  ∃ y wr rs' rr', K (y, wr) rs' rr' ∧ FrzW rows wr ∧ (∀ x ∈ v.cells.toList, x.oneCell' = true) ∧ isAggAV y = isAggAV av ∧ (isAggAV y = true ↔ ∃ vs, v = .agg vs) ∧ v.cells.size = (cellsOf y).length ∧ Given w N rows Φ wr y v := by
 rw [giveT, RM.wp_bind] at h
 obtain ⟨y, wr, rs', rr', h, g2, g3, g4, g5, g6, g7⟩ := giveUpA_sound hrow hv h
 refine ⟨_, _, _, _, h, g2, g3, ?_, ?_, ?_, fun ρ hρ hwr hr => canonA_rep (g7 ρ hρ hwr hr)⟩
 ·rw [canonA_agg]; exact g4
 ·rw [canonA_agg]; exact g5
 ·rw [canonA_len]; exact g6
end
end Go.AL
end
section
namespace Go.AL

def Chunks (w : World) (A : Nat → Prop) (H : AV → Value → Prop) : List AV → Nat → List Value → Prop
 | [], _, _ => True
 | x :: xs, es, c => (∃ v, v.cells.size = es ∧ (∀ u ∈ v.cells.toList, u.oneCell' = true) ∧ c.take es = v.cells.toList ∧ Rep w A H x v) ∧ Chunks w A H xs es (c.drop es)
section
variable {w w' : World} {A A' : Nat → Prop} {H H' : AV → Value → Prop} {es : Nat}
theorem hasCells_iff {b o : Nat} {c : Array Value} {e : TypeId} {fr : Nat × Nat} (hb : w.heap[b]? = some (.cells c e fr)) (vs : List Value) :
  HasCells w b o vs ↔ (∀ u ∈ vs, u.oneCell' = true) ∧ (c.toList.drop o).take vs.length = vs := by
 constructor
 ·intro h
  refine ⟨fun u hu => ?_, List.ext_getElem? fun j => ?_⟩
  ·obtain ⟨j, hj⟩ := List.mem_iff_getElem?.1 hu
   exact (h j u hj).1
  ·rw [List.getElem?_take]
   split
   ·rename_i hj
    rw [List.getElem?_drop, Array.getElem?_toList, ← cell_of_row w b (o + j) c e fr hb]
    exact ((h j vs[j] (List.getElem?_eq_getElem hj)).2).trans (List.getElem?_eq_getElem hj).symm
   ·rw [List.getElem?_eq_none (by omega)]
 ·rintro ⟨h1, h2⟩ j v hj
  have hjl := (List.getElem?_eq_some_iff.1 hj).1
  refine ⟨h1 v (List.mem_of_getElem? hj), ?_⟩
  rw [cell_of_row w b (o + j) c e fr hb, ← hj, ← h2, List.getElem?_take, if_pos hjl, List.getElem?_drop, Array.getElem?_toList]
theorem chunks_iff {b : Nat} {c : Array Value} {e : TypeId} {fr : Nat × Nat} (hb : w.heap[b]? = some (.cells c e fr)) : ∀ {xs : List AV} {o : Nat}, RepRow w A H xs b o es ↔ Chunks w A H xs es (c.toList.drop o)
 | [], _ => Iff.rfl
 | x :: xs, o => by
  refine and_congr (exists_congr fun v => ?_) ?_
  ·rw [hasCells_iff hb]
   constructor
   ·rintro ⟨h1, ⟨h2, h3⟩, h4⟩
    exact ⟨h1, h2, by rw [← h1, ← Array.length_toList]; exact h3, h4⟩
   ·rintro ⟨h1, h2, h3, h4⟩
    exact ⟨h1, ⟨h2, by rw [Array.length_toList, h1]; exact h3⟩, h4⟩
  ·rw [chunks_iff hb, List.drop_drop]
theorem RepRow.cells {b : Nat} : ∀ {xs : List AV} {o : Nat}, RepRow w A H xs b o es → ∃ cs : List Value, cs.length = xs.length * es ∧ HasCells w b o cs ∧ Chunks w A H xs es cs
 | [], o, _ => ⟨[], by simp, fun j v h => by simp at h, trivial⟩
 | x :: xs, o, ⟨⟨v, h1, h2, h3⟩, h4⟩ => by
  obtain ⟨cs, g1, g2, g3⟩ := RepRow.cells h4
  have hl : v.cells.toList.length = es := by simpa using h1
  refine ⟨v.cells.toList ++ cs, ?_, ?_, ⟨v, h1, fun u hu => ?_, ?_, h3⟩, ?_⟩
  ·simp [g1, h1, Nat.add_mul]; omega
  ·intro j u hj
   rw [List.getElem?_append] at hj
   split at hj
   ·exact h2 j u hj
   ·rename_i hge
    have := g2 _ u hj
    rw [hl] at this hge
    rw [show o + es + (j - es) = o + j by omega] at this
    exact this
  ·obtain ⟨j, hj⟩ := List.mem_iff_getElem?.1 hu
   exact (h2 j u hj).1
  ·rw [List.take_append_of_le_length (by omega), List.take_of_length_le (by omega)]
  ·rw [List.drop_append_of_le_length (by omega), List.drop_of_length_le (by omega)]
   exact g3
theorem Chunks.len : ∀ {xs : List AV} {c : List Value}, Chunks w A H xs es c → xs.length * es ≤ c.length
 | [], _, _ => by simp
 | x :: xs, c, ⟨⟨v, h1, h2, h3, h4⟩, h5⟩ => by
  have := Chunks.len h5
  have hl : (c.take es).length = es := by rw [h3]; simpa using h1
  simp [List.length_take] at hl this
  simp [Nat.add_mul]
  omega
theorem Chunks.mono (h : ∀ x v, Rep w A H x v → Rep w' A' H' x v) : ∀ {xs : List AV} {c : List Value}, Chunks w A H xs es c → Chunks w' A' H' xs es c
 | [], _, _ => trivial
 | _ :: _, _, ⟨⟨v, h1, h2, h3, h4⟩, h5⟩ => ⟨⟨v, h1, h2, h3, h _ _ h4⟩, Chunks.mono h h5⟩
theorem Chunks.append : ∀ {xs ys : List AV} {c d : List Value}, Chunks w A H xs es c → c.length = xs.length * es → Chunks w A H ys es d → Chunks w A H (xs ++ ys) es (c ++ d)
 | [], ys, c, d, _, hl, h => by
  have : c = [] := List.eq_nil_of_length_eq_zero (by simpa using hl)
  subst this
  exact h
 | x :: xs, ys, c, d, ⟨⟨v, h1, h2, h3, h4⟩, h5⟩, hl, h => by
  have hle : es ≤ c.length := by simp [Nat.add_mul] at hl; omega
  refine ⟨⟨v, h1, h2, by rw [List.take_append_of_le_length hle]; exact h3, h4⟩, ?_⟩
  rw [List.drop_append_of_le_length hle]
  exact Chunks.append h5 (by simp [Nat.add_mul] at hl ⊢; omega) h
theorem Chunks.tail : ∀ {xs : List AV} {c d : List Value}, Chunks w A H xs es c → Chunks w A H xs es (c ++ d)
 | [], _, _, _ => trivial
 | x :: xs, c, d, ⟨⟨v, h1, h2, h3, h4⟩, h5⟩ => by
  have hl : (c.take es).length = es := by rw [h3]; simpa using h1
  have hle : es ≤ c.length := by simp [List.length_take] at hl; omega
  refine ⟨⟨v, h1, h2, by rw [List.take_append_of_le_length hle]; exact h3, h4⟩, ?_⟩
  rw [List.drop_append_of_le_length hle]
  exact Chunks.tail h5
theorem Chunks.cut : ∀ {xs : List AV} {c : List Value} {n : Nat}, xs.length * es ≤ n → Chunks w A H xs es c → Chunks w A H xs es (c.take n)
 | [], _, _, _, _ => trivial
 | x :: xs, c, n, hn, ⟨⟨v, h1, h2, h3, h4⟩, h5⟩ => by
  have hn' : es + xs.length * es ≤ n := by simp [Nat.add_mul] at hn; omega
  refine ⟨⟨v, h1, h2, by rw [List.take_take, Nat.min_eq_left (by omega)]; exact h3, h4⟩, ?_⟩
  rw [List.drop_take]
  exact Chunks.cut (by omega) h5
theorem Chunks.drop : ∀ {xs : List AV} {c : List Value} (k : Nat), Chunks w A H xs es c → Chunks w A H (xs.drop k) es (c.drop (k * es))
 | xs, c, 0, h => by simpa using h
 | [], c, k + 1, _ => trivial
 | x :: xs, c, k + 1, ⟨_, h⟩ => by
  have := Chunks.drop k h
  rw [List.drop_drop] at this
  rw [List.drop_succ_cons, Nat.add_mul, Nat.one_mul, Nat.add_comm]
  exact this
theorem Chunks.take : ∀ {xs : List AV} {c : List Value} (k : Nat), Chunks w A H xs es c → Chunks w A H (xs.take k) es c
 | xs, c, 0, h => trivial
 | [], c, k + 1, _ => trivial
 | x :: xs, c, k + 1, ⟨h, h'⟩ => ⟨h, Chunks.take k h'⟩
theorem Chunks.at : ∀ {xs : List AV} {c : List Value} {i : Nat} {x : AV}, Chunks w A H xs es c → xs[i]? = some x → ∃ v, v.cells.size = es ∧ (∀ u ∈ v.cells.toList, u.oneCell' = true) ∧ (c.drop (i * es)).take es = v.cells.toList ∧ Rep w A H x v
 | x :: xs, c, 0, _, h, e => by simp at e; subst e; simpa using h.1
 | x :: xs, c, i + 1, _, h, e => by
  obtain ⟨v, h1, h2, h3, h4⟩ := Chunks.at h.2 (i := i) (by simpa using e)
  refine ⟨v, h1, h2, ?_, h4⟩
  rw [List.drop_drop] at h3
  rw [Nat.add_mul, Nat.one_mul, Nat.add_comm]
  exact h3
 | [], _, _, _, _, e => by simp at e
theorem Chunks.one {x : AV} {v : Value} (h1 : v.cells.size = es) (h2 : ∀ u ∈ v.cells.toList, u.oneCell' = true) (h : Rep w A H x v) : Chunks w A H [x] es v.cells.toList :=
 ⟨⟨v, h1, h2, List.take_of_length_le (by simp [h1]), h⟩, trivial⟩
theorem Chunks.patch {xs ys : List AV} {c d : List Value} {k : Nat} (h : Chunks w A H xs es c) (hd : Chunks w A H ys es d) (hl : d.length = ys.length * es) (hk : k + ys.length ≤ xs.length) :
  Chunks w A H (xs.take k ++ (ys ++ xs.drop (k + ys.length))) es (c.take (k * es) ++ (d ++ c.drop (k * es + d.length))) := by
 have hlen := h.len
 have hk1 : k * es ≤ c.length := Nat.le_trans (Nat.mul_le_mul_right _ (by omega)) hlen
 have hk0 : (xs.take k).length = k := by simp; omega
 refine Chunks.append ((h.take k).cut (by rw [hk0]; exact Nat.le_refl _)) (by rw [hk0]; simp; omega) (Chunks.append hd hl ?_)
 have := h.drop (k + ys.length)
 rwa [Nat.add_mul, ← hl] at this
theorem Chunks.set {xs : List AV} {c : List Value} {i : Nat} {x : AV} {v : Value} (h : Chunks w A H xs es c) (hi : i < xs.length) (h1 : v.cells.size = es) (h2 : ∀ u ∈ v.cells.toList, u.oneCell' = true) (hx : Rep w A H x v) :
  Chunks w A H (xs.set i x) es (c.take (i * es) ++ (v.cells.toList ++ c.drop (i * es + es))) := by
 have := h.patch (k := i) (Chunks.one h1 h2 hx) (by simp [h1]) (by simp; omega)
 rw [show v.cells.toList.length = es by simp [h1]] at this
 rw [List.set_eq_take_append_cons_drop, if_pos hi]
 exact this
theorem zeroCells_succ {z : Array Value} (n : Nat) : (Builtin.zeroCells z (n + 1)).toList = z.toList ++ (Builtin.zeroCells z n).toList := by
 apply List.ext_getElem?
 intro j
 have hg : ∀ (m j : Nat), (Builtin.zeroCells z m).toList[j]? = if j < m * z.size then some (z[j % z.size]!) else none := by
  intro m j
  simp only [Builtin.zeroCells, Array.toList_map, List.getElem?_map, Array.toList_range]
  split
  ·rename_i hj; rw [List.getElem?_range hj]; rfl
  ·rename_i hj; rw [List.getElem?_eq_none (by simp; omega)]; rfl
 rw [hg, List.getElem?_append, Array.length_toList]
 by_cases hj : j < z.size
 ·rw [if_pos hj, if_pos (by rw [Nat.add_mul]; omega), Nat.mod_eq_of_lt hj]
  simp [hj]
 ·rw [if_neg hj, hg]
  have e : (j < (n + 1) * z.size) ↔ (j - z.size < n * z.size) := by rw [Nat.add_mul]; omega
  by_cases hj2 : j - z.size < n * z.size
  ·rw [if_pos (e.2 hj2), if_pos hj2]
   congr 2
   rw [Nat.mod_eq_sub_mod (by omega)]
  ·rw [if_neg (fun h => hj2 (e.1 h)), if_neg hj2]
theorem Chunks.zeros {x : AV} {v : Value} (h1 : v.cells.size = es) (h2 : ∀ u ∈ v.cells.toList, u.oneCell' = true) (h : Rep w A H x v) : ∀ n, Chunks w A H (List.replicate n x) es (Builtin.zeroCells v.cells n).toList
 | 0 => trivial
 | n + 1 => by
  rw [zeroCells_succ, List.replicate_succ]
  refine ⟨⟨v, h1, h2, ?_, h⟩, ?_⟩
  ·rw [List.take_append_of_le_length (by simp [h1]), List.take_of_length_le (by simp [h1])]
  ·rw [List.drop_append_of_le_length (by simp [h1]), List.drop_of_length_le (by simp [h1])]
   exact Chunks.zeros h1 h2 h n
end
end Go.AL
end
section
namespace Go.AL

section
variable {N PO : Nat → Prop} {w0 : Base} {w w' : World} {env : Env} {rows : Rows} {ce : Nat → Value} {Φ : Nat → Loc}
def Fine (N PO : Nat → Prop) (w0 : Base) (env : Env) (ce : Nat → Value) (rows : Rows) (w : World) (av : AV) (v : Value) : Prop :=
 ∃ Φ, Core N PO w0 ⟨env, rows⟩ ce w Φ ∧ Rep w (Av N rows Φ) (Hd rows Φ w) av v
def Onward (N : Nat → Prop) (rows rows' : Rows) (Φ Φ' : Nat → Loc) (w w' : World) : Prop :=
 (∀ av v, Rep w (Av N rows Φ) (Hd rows Φ w) av v → Rep w' (Av N rows' Φ') (Hd rows' Φ' w') av v) ∧ (∀ av v, Rep w (Av N rows Φ) noH av v → Rep w' (Av N rows' Φ') noH av v)
theorem Onward.refl : Onward N rows rows Φ Φ w w := ⟨fun _ _ h => h, fun _ _ h => h⟩
theorem Onward.trans {rows1 rows2 rows3 : Rows} {Φ1 Φ2 Φ3 : Nat → Loc} {w1 w2 w3 : World} (h : Onward N rows1 rows2 Φ1 Φ2 w1 w2) (h' : Onward N rows2 rows3 Φ2 Φ3 w2 w3) : Onward N rows1 rows3 Φ1 Φ3 w1 w3 :=
 ⟨fun _ _ x => h'.1 _ _ (h.1 _ _ x), fun _ _ x => h'.2 _ _ (h.2 _ _ x)⟩
def FreshG (rows : Rows) (key g : Nat) : Prop := (lget rows key = none → g ≠ 0) ∧ ∀ row0, lget rows key = some row0 → row0.gen < g
theorem fresh_gen {key : Nat} : FreshG rows key (freshGen (lget rows key)) := ⟨fun h => by rw [h]; exact Nat.one_ne_zero, fun row0 h => by rw [h]; exact Nat.lt_succ_self _⟩
theorem Grows.refl (w : World) : Grows w w := fun _ c e h => ⟨c, e, h, Nat.le_refl _⟩
structure Pushed (w w' : World) (o : Obj) : Prop where
 os : w'.os = w.os
 tape : w'.tape = w.tape
 output : w'.output = w.output
 heap : w'.heap = w.heap.push o
theorem pushed_alloc (w : World) (o : Obj) : Pushed w (w.alloc o) o := ⟨rfl, rfl, rfl, rfl⟩
theorem pushed_drew (w : World) (o : Obj) : Pushed w (w.drew.alloc o) o := ⟨rfl, rfl, rfl, rfl⟩
theorem Pushed.new {o : Obj} (h : Pushed w w' o) : w'.heap[w.heap.size]? = some o := by rw [h.heap]; simp
theorem Pushed.old {o : Obj} (h : Pushed w w' o) {b : Nat} (hb : b < w.heap.size) : w'.heap[b]? = w.heap[b]? := by
 rw [h.heap, Array.getElem?_push, if_neg (Nat.ne_of_lt hb)]
theorem Pushed.size {o : Obj} (h : Pushed w w' o) : w'.heap.size = w.heap.size + 1 := by rw [h.heap]; simp

theorem Core.freshRow (h : Core N PO w0 ⟨env, rows⟩ ce w Φ) (key : Nat) (row : Row) (hg : FreshG rows key row.gen) {o : Obj} (hp : Pushed w w' o)
  (hrow : Onward N rows (lput rows key row) Φ (upd Φ key (some (w.heap.size, 0))) w w' → RowRel w' N (lput rows key row) (upd Φ key (some (w.heap.size, 0))) key row) :
  Core N PO w0 ⟨env, lput rows key row⟩ ce w' (upd Φ key (some (w.heap.size, 0))) ∧ Onward N rows (lput rows key row) Φ (upd Φ key (some (w.heap.size, 0))) w w' := by
 have hsz : w.heap.size ≤ w'.heap.size := by rw [hp.size]; omega
 have a1 : ∀ b, b < w.heap.size → (∀ row0 o, lget (St.rows ⟨env, rows⟩) key = some row0 → row0.own = true → Φ key ≠ some (b, o)) → w'.heap[b]? = w.heap[b]? := fun b hb _ => hp.old hb
 have ag : Grows w w' := fun b c e hb => ⟨c, e, (hp.old (Array.getElem?_eq_some_iff.1 hb).1).trans hb, Nat.le_refl _⟩
 have a2 : (lget (St.rows ⟨env, rows⟩) key = none → row.gen ≠ 0) ∧ ∀ row0, lget (St.rows ⟨env, rows⟩) key = some row0 → row0.gen < row.gen ∨ (row0.gen = row.gen ∧ some (w.heap.size, 0) = Φ key ∧ sameShape row0.body row.body ∧ row0.box = row.box ∧
  (row.own = true → row0.own = true)) := ⟨hg.1, fun row0 h0 => .inl (hg.2 row0 h0)⟩
 have a3 : row.own = true → ∀ b o, some (w.heap.size, 0) = some (b, o) → (w.heap.size ≤ b ∨ ∃ row0 o', lget (St.rows ⟨env, rows⟩) key = some row0 ∧ row0.own = true ∧ Φ key = some (b, o')) := by
  intro _ b o e
  obtain ⟨rfl, rfl⟩ := by simpa using e
  exact .inl (Nat.le_refl _)
 have hdat := setRow_dat h key row (some (w.heap.size, 0)) w' hp.os hp.tape hp.output hsz a1 ag a2 a3
 have hhd := setRow_hd h key row (some (w.heap.size, 0)) w' hp.os hp.tape hp.output hsz a1 ag a2 a3
 have on : Onward N rows (lput rows key row) Φ (upd Φ key (some (w.heap.size, 0))) w w' := ⟨fun _ _ x => Rep.mono hdat hsz hhd x, fun _ _ x => Rep.mono hdat hsz (fun _ _ y => y) x⟩
 exact ⟨Core.setRow h key row (some (w.heap.size, 0)) w' hp.os hp.tape hp.output hsz a1 ag a2 a3 (hrow on), on⟩
theorem Core.fresh (h : Core N PO w0 ⟨env, rows⟩ ce w Φ) (key : Nat) (g : Nat) (box : Bool) {es : Nat} {xs : List AV} (hg : FreshG rows key g) {c : Array Value} {e : TypeId}
  (hp : Pushed w w' (.cells c e)) (hc : Chunks w (Av N rows Φ) (if box then Hd rows Φ w else noH) xs es c.toList) :
  Core N PO w0 ⟨env, lput rows key ⟨g, true, box, .cells es xs⟩⟩ ce w' (upd Φ key (some (w.heap.size, 0))) ∧ Onward N rows (lput rows key ⟨g, true, box, .cells es xs⟩) Φ (upd Φ key (some (w.heap.size, 0))) w w' := by
 refine h.freshRow key _ hg hp fun on => ?_
 unfold RowRel
 simp only [upd_same]
 refine ⟨(chunks_iff hp.new).2 ?_, by rw [hp.size]; omega, fun ho => (by cases ho), fun _ => ⟨c, e, hp.new, by have := hc.len; simpa using this⟩⟩
 rw [List.drop_zero]
 cases box with
 | true => exact hc.mono on.1
 | false => exact hc.mono on.2
theorem Core.freshNil (h : Core N PO w0 ⟨env, rows⟩ ce w Φ) (key : Nat) (g : Nat) (es : Nat) (hg : FreshG rows key g) :
  Core N PO w0 ⟨env, lput rows key ⟨g, true, false, .cells es []⟩⟩ ce w (upd Φ key none) ∧ Onward N rows (lput rows key ⟨g, true, false, .cells es []⟩) Φ (upd Φ key none) w w := by
 have a1 : ∀ b, b < w.heap.size → (∀ row0 o, lget (St.rows ⟨env, rows⟩) key = some row0 → row0.own = true → Φ key ≠ some (b, o)) → w.heap[b]? = w.heap[b]? := fun b hb _ => rfl
 have ag := Grows.refl w
 have a2 : (lget (St.rows ⟨env, rows⟩) key = none → g ≠ 0) ∧ ∀ row0, lget (St.rows ⟨env, rows⟩) key = some row0 → row0.gen < g ∨ (row0.gen = g ∧ none = Φ key ∧ sameShape row0.body (.cells es []) ∧ row0.box = false ∧
  (true = true → row0.own = true)) := ⟨hg.1, fun row0 h0 => .inl (hg.2 row0 h0)⟩
 have a3 : true = true → ∀ b o, (none : Loc) = some (b, o) → (w.heap.size ≤ b ∨ ∃ row0 o', lget (St.rows ⟨env, rows⟩) key = some row0 ∧ row0.own = true ∧ Φ key = some (b, o')) := by
  intro _ b o e
  cases e
 have hdat := setRow_dat h key ⟨g, true, false, .cells es []⟩ none w rfl rfl rfl (Nat.le_refl _) a1 ag a2 a3
 have hhd := setRow_hd h key ⟨g, true, false, .cells es []⟩ none w rfl rfl rfl (Nat.le_refl _) a1 ag a2 a3
 have on : Onward N rows (lput rows key ⟨g, true, false, .cells es []⟩) Φ (upd Φ key none) w w := ⟨fun _ _ x => Rep.mono hdat (Nat.le_refl _) hhd x, fun _ _ x => Rep.mono hdat (Nat.le_refl _) (fun _ _ y => y) x⟩
 refine ⟨Core.setRow h key ⟨g, true, false, .cells es []⟩ none w rfl rfl rfl (Nat.le_refl _) a1 ag a2 a3 ?_, on⟩
 unfold RowRel
 simp only [upd_same]
 exact ⟨trivial, trivial⟩
theorem Rep_fresh {key g n cap es : Nat} {box : Bool} {xs : List AV} {c : Array Value} {e : TypeId} (hp : Pushed w w' (.cells c e)) (hn : n ≤ cap) (hc : cap * es ≤ c.size) :
  Rep w' (Av N (lput rows key ⟨g, true, box, .cells es xs⟩) (upd Φ key (some (w.heap.size, 0)))) (Hd (lput rows key ⟨g, true, box, .cells es xs⟩) (upd Φ key (some (w.heap.size, 0))) w') (.hs ⟨key, g⟩ 0 n) (.slice (some ⟨w.heap.size, 0, none⟩) n cap) := by
 refine ⟨_, _, rfl, hn, (by intro h; cases h), _, lget_lput_same _ _ _, Nat.le_refl _, fun _ es' xs' hb => ?_⟩
 obtain ⟨rfl, rfl⟩ := by simpa using hb
 simp only [upd_same]
 exact ⟨.inr (by simp), fun _ => ⟨c, e, hp.new, by simpa using hc⟩⟩
theorem Rep_freshNil {key g es : Nat} {a : Option Addr} :
  Rep w (Av N (lput rows key ⟨g, true, false, .cells es []⟩) (upd Φ key none)) (Hd (lput rows key ⟨g, true, false, .cells es []⟩) (upd Φ key none) w) (.hs ⟨key, g⟩ 0 0) (.slice a 0 0) := by
 refine ⟨_, _, rfl, Nat.le_refl _, fun _ => rfl, _, lget_lput_same _ _ _, Nat.le_refl _, fun _ es' xs' hb => ?_⟩
 simp only [upd_same]

structure Src (w : World) (A : Nat → Prop) (v : Value) (es : Nat) (xs : List AV) (cs : List Value) : Prop where
 len : cs.length = xs.length * es
 one : ∀ u ∈ cs, u.oneCell' = true
 chunks : Chunks w A noH xs es cs
 lenOf : ∀ (P : Program) (w' : World), (Builtin.lenOf v).run P w' = .ok xs.length w'
 first : ∀ (P : Program) (w' : World) (size n : Nat), w'.heap = w.heap → n ≤ xs.length → (n = 0 ∨ size = es) → (Builtin.firstCells size n v).run P w' = .ok (cs.take (n * es)).toArray w'
theorem addr_add (b o j : Nat) : (⟨b, o, none⟩ : Addr).add j = ⟨b, o + j, none⟩ := by
 unfold Addr.add
 split <;> simp_all
theorem Src.of_slice {A : Nat → Prop} {a : Option Addr} {cap es : Nat} {ys : List AV} (h : ys = [] ∨ ∃ b o, a = some ⟨b, o, none⟩ ∧ RepRow w A noH ys b o es) :
  ∃ cs, Src w A (.slice a ys.length cap) es ys cs ∧ ∀ b o, a = some ⟨b, o, none⟩ → ys ≠ [] → HasCells w b o cs := by
 rcases h with rfl | ⟨b, o, rfl, h⟩
 ·refine ⟨[], ⟨by simp, (fun _ h => by cases h), trivial, fun P w' => rfl, fun P w' size n hw hn h => ?_⟩, fun _ _ _ h => absurd rfl h⟩
  have : n = 0 := by simpa using hn
  subst this
  cases a with
  | none => simp [Builtin.firstCells]
  | some a => simp [Builtin.firstCells, loadCells, loadCellsFrom]
 ·obtain ⟨cs, h1, h2, h3⟩ := h.cells
  refine ⟨cs, ⟨h1, fun u hu => ?_, h3, fun P w' => rfl, fun P w' size n hw hn h => ?_⟩, fun b' o' e _ => ?_⟩
  ·obtain ⟨j, hj⟩ := List.mem_iff_getElem?.1 hu
   exact (h2 j u hj).1
  ·have hsz : n * size = n * es := by rcases h with rfl | rfl <;> simp
   have hl : (cs.take (n * es)).length = n * es := by
    rw [List.length_take, h1]
    exact Nat.min_eq_left (Nat.mul_le_mul_right _ hn)
   simp only [Builtin.firstCells, hsz]
   have := run_loadCells_list (P := P) w' ⟨b, o, none⟩ (cs.take (n * es)) (fun j v hj => by
    rw [addr_add]
    rw [List.getElem?_take] at hj
    split at hj
    ·rw [World.cell?_of_block (w := w) (by rw [hw])]
     exact (h2 j v hj).2
    ·cases hj)
   rwa [hl] at this
  ·obtain ⟨rfl, rfl⟩ := by simpa using e
   exact h2
theorem Src.of_str {A : Nat → Prop} (s : ByteArray) : Src w A (.string s) 1 (s.data.toList.map fun b => int .u8 b.toNat) (s.data.toList.map fun b => Value.int .u8 b.toNat) := by
 refine ⟨by simp, ?_, ?_, fun P w' => ?_, fun P w' size n hw hn _ => ?_⟩
 ·intro u hu
  obtain ⟨b, _, rfl⟩ := List.mem_map.1 hu
  rfl
 ·have : ∀ l : List UInt8, Chunks w A noH (l.map fun b => int .u8 b.toNat) 1 (l.map fun b => Value.int .u8 b.toNat) := by
   intro l
   induction l with
   | nil => trivial
   | cons b l ih => exact ⟨⟨.int .u8 b.toNat, rfl, (fun u hu => by simp [Value.cells] at hu; subst hu; rfl), rfl, Rep_int⟩, ih⟩
  exact this _
 ·simp only [Builtin.lenOf, Sem.run_pure, List.length_map, Array.length_toList]
  rfl
 ·simp only [Builtin.firstCells, Sem.run_pure, Nat.mul_one]
  congr 1
  apply Array.toList_inj.1
  simp [ByteArray.data_extract, List.map_take]

section
variable {P : Program} {C : FuncId → List PA → CRes → Prop} {d : Bool} {rs rr : List Nat}
theorem hs_src (hrow : ∀ r row, lget rows r = some row → RowRel w N rows Φ r row) {p : Pl} {o n : Nat} {v : Value} (hv : Hd rows Φ w (.hs p o n) v) {row : Row} (h0 : lget rows p.r = some row) (hg : row.gen = p.g)
  {es : Nat} {xs : List AV} (hb : row.body = .cells es xs) (hbox : row.box = false) (hlen : o + n ≤ xs.length) :
  ∃ a cap cs, v = .slice a n cap ∧ Src w (Av N rows Φ) v es ((xs.drop o).take n) cs := by
 obtain ⟨a, cap, rfl, hc, hz, row', h0', hg', hh⟩ := hv
 rw [h0] at h0'
 obtain rfl := Option.some.inj h0'
 have hh := hh hg es xs hb
 have hrr := hrow p.r row h0
 unfold RowRel at hrr
 simp only [hb] at hrr
 have hl := take_drop_length hlen
 have key : ((xs.drop o).take n) = [] ∨ ∃ b o', a = some ⟨b, o', none⟩ ∧ RepRow w (Av N rows Φ) noH ((xs.drop o).take n) b o' es := by
  cases hp : Φ p.r with
  | none => rw [hp] at hrr; exact .inl (by rw [hrr.1]; simp)
  | some x =>
   obtain ⟨b, ob⟩ := x
   rw [hp] at hrr hh
   rw [hbox] at hrr
   rcases hh.1 with h0 | ha
   ·exact .inl (List.eq_nil_of_length_eq_zero (by rw [hl]; omega))
   ·exact .inr ⟨b, ob + o * es, ha, (hrr.1.drop o).take n⟩
 obtain ⟨cs, h, _⟩ := Src.of_slice (cap := cap) key
 rw [hl] at h
 exact ⟨a, cap, cs, rfl, h⟩
theorem elems_sound {α : Type} {x : AV} {v : Value} {k : Nat → List AV → RM α} {K : α → List Nat → List Nat → Prop} (hrow : ∀ r row, lget rows r = some row → RowRel w N rows Φ r row)
  (hv : Rep w (Av N rows Φ) (Hd rows Φ w) x v) (h : (elems x k).wp C d ⟨env, rows⟩ rs rr K) :
  ∃ es xs cs rs' rr', (k es xs).wp C d ⟨env, rows⟩ rs' rr' K ∧ Src w (Av N rows Φ) v es xs cs ∧ ((∃ a cap, v = .slice a xs.length cap ∧ (a = none → xs = [])) ∨ ∃ s, v = .string s ∧ x = .sc (.string s)) := by
 cases x with
 | nil =>
  obtain ⟨a, rfl⟩ := hv
  obtain ⟨cs, h', _⟩ := Src.of_slice (w := w) (A := Av N rows Φ) (a := a) (cap := 0) (es := 0) (ys := []) (.inl rfl)
  exact ⟨0, [], cs, rs, rr, h, h', .inl ⟨a, 0, rfl, fun _ => rfl⟩⟩
 | sl es xs =>
  obtain ⟨a, cap, rfl, hc, hh⟩ := hv
  obtain ⟨cs, h', _⟩ := Src.of_slice (w := w) (A := Av N rows Φ) (a := a) (cap := cap) (es := es) (ys := xs) (hh.imp id fun ⟨b, o, h1, _, _, h2⟩ => ⟨b, o, h1, h2⟩)
  exact ⟨es, xs, cs, rs, rr, h, h', .inl ⟨a, cap, rfl, fun ha => by rcases hh with h0 | ⟨b, o, hb, _⟩; exact h0; rw [ha] at hb; cases hb⟩⟩
 | hs p o n =>
  simp only [elems, rd, RM.wp] at h
  obtain ⟨a, cap, e, hc, hz, row, h0, hg, hh⟩ := id hv
  simp only [h0] at h
  split at h
  ·rename_i hgen
   split at h
   ·rename_i es xs hb
    split at h
    ·exact h.elim
    ·rename_i hbox
     obtain ⟨hlen, hK⟩ := h
     have hlen : o + n ≤ xs.length := hlen
     obtain ⟨a', cap', cs, e', hs⟩ := hs_src hrow hv h0 hgen hb (by simpa using hbox) hlen
     exact ⟨es, _, cs, _, _, hK, hs, .inl ⟨a, cap, by rw [take_drop_length hlen]; exact e, fun ha => List.eq_nil_of_length_eq_zero (by rw [take_drop_length hlen]; exact hz ha)⟩⟩
   ·exact h.elim
  ·exact h.elim
 | sc u =>
  cases u with
  | string s =>
   obtain ⟨rfl, _⟩ := hv
   exact ⟨1, _, _, rs, rr, h, Src.of_str s, .inr ⟨s, rfl, rfl⟩⟩
  | _ => exact h.elim
 | _ => exact h.elim

theorem run_append_room' (t tx ty e : TypeId) (i : TypeInfo) (dx : TypeDesc) (ht : P.underlying t = some (.slice e)) (htx : P.underlying tx = some dx) (hdx : (∃ e, dx = .slice e) ∨ dx = .string) (hi : P.info? e = some i)
  (base : Option Addr) (sLen sCap m : Nat) (x : Value) (news : List Value) (hlen : ∀ (P : Program) (w' : World), (Builtin.lenOf x).run P w' = .ok m w')
  (hn : (Builtin.firstCells i.size m x).run P w = .ok news.toArray w) (hroom : sLen + m ≤ sCap) (w1 : World) (hst : ∀ a, base = some a → (storeCells (a.add (sLen * i.size)) news).run P w = .ok () w1) (hnone : base = none → w1 = w) :
  (Builtin.append_ #[t, tx] ty #[.slice base sLen sCap, x]).run P w = .ok (.slice base (sLen + m) sCap) w1 := by
 have hl := hlen P w
 cases base with
 | none =>
  obtain rfl := hnone rfl
  rcases hdx with ⟨e', rfl⟩ | rfl <;> simp [Builtin.append_, run_underlying ht, run_underlying htx, Go.sizeOf, typeInfo, hi, hl, hn, hroom]
 | some a =>
  have := hst a rfl
  rcases hdx with ⟨e', rfl⟩ | rfl <;> simp [Builtin.append_, run_underlying ht, run_underlying htx, Go.sizeOf, typeInfo, hi, hl, hn, hroom, this]
theorem run_append_grow' (t tx ty e : TypeId) (i : TypeInfo) (z : Value) (dx : TypeDesc) (ht : P.underlying t = some (.slice e)) (htx : P.underlying tx = some dx) (hdx : (∃ e, dx = .slice e) ∨ dx = .string) (hi : P.info? e = some i) (hz : i.zero = some z)
  (base : Option Addr) (sLen sCap m : Nat) (x : Value) (olds news : List Value) (hlen : ∀ (P : Program) (w' : World), (Builtin.lenOf x).run P w' = .ok m w')
  (ho : (Builtin.firstCells i.size sLen (.slice base sLen sCap)).run P w.drew = .ok olds.toArray w.drew) (hn : (Builtin.firstCells i.size m x).run P w.drew = .ok news.toArray w.drew) (hg : sCap < sLen + m)
  (hb : (sLen + m) * i.bytes ≤ 140737488355328) (hb0 : 0 < i.bytes) :
  (Builtin.append_ #[t, tx] ty #[.slice base sLen sCap, x]).run P w = .ok (.slice (some ⟨w.heap.size, 0, none⟩) (sLen + m) (grownCap w (sLen + m) sCap e))
    (w.drew.alloc (.cells (olds.toArray ++ news.toArray ++ Builtin.zeroCells z.cells (grownCap w (sLen + m) sCap e - (sLen + m))) e)) := by
 have hl := hlen P w
 have hn' : ¬ (sLen + m ≤ sCap) := by omega
 have h48 := growslice_fits hg hb
 have h48' : ¬ (281474976710656 < Builtin.nextslicecap (sLen + m) sCap * i.bytes) := by omega
 have hb0' : i.bytes ≠ 0 := by omega
 rcases hdx with ⟨e', rfl⟩ | rfl <;>
 ·simp [Builtin.append_, run_underlying ht, run_underlying htx, Go.sizeOf, typeInfo, zeroValue, hi, hz, hl, hn', h48', hb0', Question.forced, ho, hn, newRow, grownCap]
  congr 2
  apply Array.ext'
  simp [List.append_assoc]
end
end
end Go.AL
end
section
namespace Go.AL
section
variable {N PO : Nat → Prop} {w0 : Base} {w w' : World} {env : Env} {rows : Rows} {ce : Nat → Value} {Φ : Nat → Loc}
variable {P : Program} {C : FuncId → List PA → CRes → Prop} {d : Bool} {rs rr : List Nat}

theorem Src.es {A : Nat → Prop} {v : Value} {es es' : Nat} {ys : List AV} {cs : List Value} (h : Src w A v es' ys cs) (he : ys = [] ∨ es' = es) : Src w A v es ys cs := by
 rcases he with rfl | rfl
 ·have : cs = [] := List.eq_nil_of_length_eq_zero (by rw [h.len]; simp)
  subst this
  refine ⟨by simp, (fun _ h => by cases h), trivial, h.lenOf, fun P w' size n hw hn hh => ?_⟩
  have : n = 0 := by simpa using hn
  subst this
  have := h.first P w' size 0 hw hn (.inl rfl)
  simpa using this
 ·exact h
theorem append_grow_fine (h : Core N PO w0 ⟨env, rows⟩ ce w Φ) {t tx ty e : TypeId} {dx : TypeDesc} (ht : P.underlying t = some (.slice e)) (hok : (tyOf P e).ok = true)
  (htx : P.underlying tx = some dx) (hdx : (∃ e, dx = .slice e) ∨ dx = .string) {base : Option Addr} {n cap : Nat} {xs ys : List AV} {c0 cs : List Value} {xv : Value}
  (hs : Src w (Av N rows Φ) (.slice base n cap) (tyOf P e).size xs c0) (hn : xs.length = n) (hx : Src w (Av N rows Φ) xv (tyOf P e).size ys cs) (hg : cap < n + ys.length) (hr : roomy (n + ys.length) (tyOf P e).bytes)
  (key g : Nat) (hgen : FreshG rows key g) :
  ∃ v w', (Builtin.append_ #[t, tx] ty #[.slice base n cap, xv]).run P w = .ok v w' ∧ Fine N PO w0 env ce (lput rows key ⟨g, true, false, .cells (tyOf P e).size (xs ++ ys)⟩) w' (.hs ⟨key, g⟩ 0 (n + ys.length)) v := by
 obtain ⟨de, i, z, h1, h2, h3, h4, h5, h6, h7, h8, h9, h10⟩ := tyOf_ok hok
 have hzs : z.cells.size = (tyOf P e).size := by
  rw [h5, ← h9, cells_ofValue]
  intro hj
  rw [hj] at h8
  exact absurd h8 (by decide)
 obtain ⟨hr1, hr2⟩ := hr
 have f1 := hs.first P w.drew i.size n rfl (by omega) (.inr h5.symm)
 have f2 := hx.first P w.drew i.size ys.length rfl (Nat.le_refl _) (.inr h5.symm)
 rw [List.take_of_length_le (by rw [hs.len, hn]; exact Nat.le_refl _)] at f1
 rw [List.take_of_length_le (by rw [hx.len]; exact Nat.le_refl _)] at f2
 have hrun := run_append_grow' (P := P) (w := w) t tx ty e i z dx ht htx hdx h2 h3 base n cap ys.length xv c0 cs hx.lenOf f1 f2 hg (by rw [← h6]; exact hr1) (by rw [← h6]; exact hr2)
 refine ⟨_, _, hrun, ?_⟩
 have hp := pushed_drew w (.cells (c0.toArray ++ cs.toArray ++ Builtin.zeroCells z.cells (grownCap w (n + ys.length) cap e - (n + ys.length))) e)
 have hc : Chunks w (Av N rows Φ) noH (xs ++ ys) (tyOf P e).size (c0.toArray ++ cs.toArray ++ Builtin.zeroCells z.cells (grownCap w (n + ys.length) cap e - (n + ys.length))).toList := by
  simp only [Array.toList_append, List.append_assoc]
  exact hs.chunks.append hs.len hx.chunks.tail
 obtain ⟨hcore, hon⟩ := h.fresh key g false (es := (tyOf P e).size) (xs := xs ++ ys) hgen hp hc
 refine ⟨_, hcore, Rep_fresh hp (grownCap_ge w _ _ e) ?_⟩
 simp only [Array.size_append, List.size_toArray, size_zeroCells, hzs, hs.len, hx.len, hn, ← Nat.add_mul]
 have := grownCap_ge w (n + ys.length) cap e
 exact Nat.mul_le_mul_right _ (by omega)

theorem Core.write (h : Core N PO w0 ⟨env, rows⟩ ce w Φ) {r : Nat} {row : Row} (h0 : lget rows r = some row) (ho : row.own = true) {b ob : Nat} (hp : Φ r = some (b, ob)) {cur : Array Value} {e : TypeId} (hb : w.heap[b]? = some (.cells cur e (0, 0)))
  (row' : Row) (loc : Loc) (new : Array Value) (hsz : new.size = cur.size) (hloc : row'.own = true → ∃ o', loc = some (b, o'))
  (hgen : row.gen < row'.gen ∨ (row.gen = row'.gen ∧ loc = Φ r ∧ sameShape row.body row'.body ∧ row.box = row'.box))
  (hrow : Onward N rows (lput rows r row') Φ (upd Φ r loc) w (w.setRow b new) → RowRel (w.setRow b new) N (lput rows r row') (upd Φ r loc) r row') :
  Core N PO w0 ⟨env, lput rows r row'⟩ ce (w.setRow b new) (upd Φ r loc) ∧ Onward N rows (lput rows r row') Φ (upd Φ r loc) w (w.setRow b new) := by
 have hs : w.heap.size ≤ (w.setRow b new).heap.size := by simp
 have a1 : ∀ k, k < w.heap.size → (∀ row0 o, lget (St.rows ⟨env, rows⟩) r = some row0 → row0.own = true → Φ r ≠ some (k, o)) → (w.setRow b new).heap[k]? = w.heap[k]? := by
  intro k hk hh
  refine setRow_other w b k new fun e => hh row ob h0 ho ?_
  rw [e]; exact hp
 have ag : Grows w (w.setRow b new) := by
  intro k c e' hk
  by_cases hkb : k = b
  ·subst hkb
   rw [hb] at hk
   obtain ⟨rfl, rfl⟩ := by simpa using hk
   exact ⟨new, e, setRow_heap w k cur new e (0, 0) hb, by omega⟩
  ·exact ⟨c, e', (setRow_other w b k new hkb).trans hk, Nat.le_refl _⟩
 have a2 : (lget (St.rows ⟨env, rows⟩) r = none → row'.gen ≠ 0) ∧ ∀ row0, lget (St.rows ⟨env, rows⟩) r = some row0 → row0.gen < row'.gen ∨ (row0.gen = row'.gen ∧ loc = Φ r ∧ sameShape row0.body row'.body ∧ row0.box = row'.box ∧
  (row'.own = true → row0.own = true)) := by
  refine ⟨fun e => (by have e : lget rows r = none := e; rw [h0] at e; cases e), ?_⟩
  intro row0 h1
  have h1 : lget rows r = some row0 := h1
  rw [h0] at h1
  obtain rfl := Option.some.inj h1
  rcases hgen with hg | ⟨g1, g2, g3, g4⟩
  ·exact .inl hg
  ·exact .inr ⟨g1, g2, g3, g4, fun _ => ho⟩
 have a3 : row'.own = true → ∀ b' o, loc = some (b', o) → (w.heap.size ≤ b' ∨ ∃ row0 o', lget (St.rows ⟨env, rows⟩) r = some row0 ∧ row0.own = true ∧ Φ r = some (b', o')) := by
  intro hh b' o e'
  obtain ⟨o', hl⟩ := hloc hh
  rw [hl] at e'
  obtain ⟨rfl, rfl⟩ := by simpa using e'
  exact .inr ⟨row, ob, h0, ho, hp⟩
 have hdat := setRow_dat h r row' loc (w.setRow b new) rfl rfl rfl hs a1 ag a2 a3
 have hhd := setRow_hd h r row' loc (w.setRow b new) rfl rfl rfl hs a1 ag a2 a3
 have on : Onward N rows (lput rows r row') Φ (upd Φ r loc) w (w.setRow b new) := ⟨fun _ _ x => Rep.mono hdat hs hhd x, fun _ _ x => Rep.mono hdat hs (fun _ _ y => y) x⟩
 exact ⟨Core.setRow h r row' loc (w.setRow b new) rfl rfl rfl hs a1 ag a2 a3 (hrow on), on⟩
theorem Core.newNil (h : Core N PO w0 ⟨env, rows⟩ ce w Φ) (key : Nat) (g es : Nat) (hg : FreshG rows key g) {a : Option Addr} :
  Fine N PO w0 env ce (lput rows key ⟨g, true, false, .cells es []⟩) w (.hs ⟨key, g⟩ 0 0) (.slice a 0 0) :=
 ⟨_, (h.freshNil key g es hg).1, Rep_freshNil⟩

theorem take_drop_splice {α : Type} {l new : List α} {a b : Nat} (h : a + b ≤ l.length) : (l.take (a + b) ++ new ++ l.drop (a + b + new.length)).drop a = (l.drop a).take b ++ (new ++ l.drop (a + b + new.length)) := by
 rw [List.append_assoc, List.drop_append_of_le_length (by simp; omega), List.drop_take]
 congr 2
 omega
theorem splice_length {α : Type} {l new : List α} {a : Nat} (h : a + new.length ≤ l.length) : (l.take a ++ new ++ l.drop (a + new.length)).length = l.length := by
 simp
 omega
theorem appendA_sound (h : Core N PO w0 ⟨env, rows⟩ ce w Φ) {t tx ty e : TypeId} {dx : TypeDesc} (ht : P.underlying t = some (.slice e)) (hok : (tyOf P e).ok = true)
  (htx : P.underlying tx = some dx) (hdx : (∃ e, dx = .slice e) ∨ dx = .string) {s : AV} {sv xv : Value} (hs : Rep w (Av N rows Φ) (Hd rows Φ w) s sv) {es' : Nat} {ys : List AV} {cs : List Value}
  (hx' : Src w (Av N rows Φ) xv es' ys cs) (hes : ys = [] ∨ es' = (tyOf P e).size) {dst : Nat} {K : Eff → List Nat → List Nat → Prop} (hh : (appendA dst (tyOf P e).size (tyOf P e).bytes s ys).wp C d ⟨env, rows⟩ rs rr K) :
  ∃ ef rs' rr' v w', K ef rs' rr' ∧ (Builtin.append_ #[t, tx] ty #[sv, xv]).run P w = .ok v w' ∧ Fine N PO w0 env ce (putRows rows ef.rows) w' ef.val v := by
 have hx := hx'.es hes
 obtain ⟨de, i, z, h1, h2, h3, h4, h5, h6, h7, h8, h9, h10⟩ := tyOf_ok hok
 cases s with
 | nil =>
  obtain ⟨a, rfl⟩ := hs
  obtain ⟨hr, hK⟩ := hh
  have hK : K { val := .hs ⟨dst, freshGen (lget rows dst)⟩ 0 ys.length, rows := [(dst, ⟨freshGen (lget rows dst), true, false, .cells (tyOf P e).size ys⟩)] } rs (dst :: rr) := hK
  refine ⟨_, _, _, (?_ : ∃ v w', K { val := .hs ⟨dst, freshGen (lget rows dst)⟩ 0 ys.length, rows := [(dst, ⟨freshGen (lget rows dst), true, false, .cells (tyOf P e).size ys⟩)] } rs (dst :: rr) ∧ _ ∧ _)⟩
  by_cases hm : ys.length = 0
  ·have hy : ys = [] := List.eq_nil_of_length_eq_zero hm
   subst hy
   have hc : cs = [] := List.eq_nil_of_length_eq_zero (by rw [hx.len]; simp)
   subst hc
   refine ⟨_, w, hK, run_append_room' (P := P) (w := w) t tx ty e i dx ht htx hdx h2 a 0 0 0 xv [] hx.lenOf (by simpa using hx.first P w i.size 0 rfl (Nat.le_refl _) (.inl rfl)) (Nat.le_refl _) w (fun _ _ => rfl) (fun _ => rfl), ?_⟩
   exact h.newNil dst _ _ fresh_gen
  ·obtain ⟨c0, hs0, _⟩ := Src.of_slice (w := w) (A := Av N rows Φ) (a := a) (cap := 0) (es := (tyOf P e).size) (ys := []) (.inl rfl)
   have hr' : roomy (0 + ys.length) (tyOf P e).bytes := by rw [Nat.zero_add]; exact hr
   obtain ⟨v, w', g1, g2⟩ := append_grow_fine h (ty := ty) ht hok htx hdx hs0 rfl hx (by simp; omega) (by simpa using hr') dst _ fresh_gen
   exact ⟨v, w', hK, g1, by simpa [putRows] using g2⟩
 | hs p o n =>
  simp only [appendA, rd, RM.wp] at hh
  obtain ⟨a, cap, rfl, hc, hz, row, h0, hg, hhd⟩ := id hs
  simp only [h0] at hh
  split at hh
  ·rename_i hgen
   split at hh
   ·rename_i es xs hb
    split at hh
    ·rename_i hob
     obtain ⟨⟨rfl, hlen, hr⟩, hK⟩ := hh
     have hl := take_drop_length hlen
     obtain ⟨a', cap', c0, e0, hs0⟩ := hs_src h.rows hs h0 hgen hb hob.2 hlen
     obtain ⟨rfl, _, rfl⟩ := by simpa using e0
     have hlt : FreshG rows p.r (row.gen + 1) := ⟨fun _ => Nat.succ_ne_zero _, fun row0 h' => by rw [h0] at h'; obtain rfl := Option.some.inj h'; omega⟩
     have hK : K { val := .hs ⟨p.r, row.gen + 1⟩ 0 (n + ys.length), rows := [(p.r, ⟨row.gen + 1, true, false, .cells (tyOf P e).size ((xs.drop o).take n ++ ys)⟩)] } rs (p.r :: rr) := hK
     refine ⟨_, _, _, (?_ : ∃ v w', K { val := .hs ⟨p.r, row.gen + 1⟩ 0 (n + ys.length), rows := [(p.r, ⟨row.gen + 1, true, false, .cells (tyOf P e).size ((xs.drop o).take n ++ ys)⟩)] } rs (p.r :: rr) ∧ _ ∧ _)⟩
     by_cases hroom : n + ys.length ≤ cap
     ·have hhd := hhd hgen _ xs hb
      have hrr := h.rows p.r row h0
      unfold RowRel at hrr
      simp only [hb] at hrr
      have f2 := hx.first P w i.size ys.length rfl (Nat.le_refl _) (.inr h5.symm)
      rw [List.take_of_length_le (by rw [hx.len]; exact Nat.le_refl _)] at f2
      have nilcase : cap = 0 → ∃ v w', K { val := .hs ⟨p.r, row.gen + 1⟩ 0 (n + ys.length), rows := [(p.r, ⟨row.gen + 1, true, false, .cells (tyOf P e).size ((xs.drop o).take n ++ ys)⟩)] } rs (p.r :: rr) ∧
        (Builtin.append_ #[t, tx] ty #[.slice a n cap, xv]).run P w = .ok v w' ∧ Fine N PO w0 env ce (putRows rows [(p.r, ⟨row.gen + 1, true, false, .cells (tyOf P e).size ((xs.drop o).take n ++ ys)⟩)]) w' (.hs ⟨p.r, row.gen + 1⟩ 0 (n + ys.length)) v := by
       intro hcap
       have hn0 : n = 0 := by omega
       have hy : ys = [] := List.eq_nil_of_length_eq_zero (by omega)
       subst hcap hn0 hy
       have hc : cs = [] := List.eq_nil_of_length_eq_zero (by rw [hx.len]; simp)
       subst hc
       refine ⟨_, w, hK, run_append_room' (P := P) (w := w) t tx ty e i dx ht htx hdx h2 a 0 0 0 xv [] hx.lenOf (by simpa using f2) (Nat.le_refl _) w (fun _ _ => rfl) (fun _ => rfl), ?_⟩
       exact h.newNil p.r _ _ hlt
      cases hp : Φ p.r with
      | none => rw [hp] at hhd; exact nilcase hhd
      | some x =>
       obtain ⟨b, ob⟩ := x
       rw [hp] at hhd hrr
       rcases hhd.1 with hcap | ha
       ·exact nilcase hcap
       ·subst ha
        obtain ⟨cur, ec, hbc, hbs⟩ := hhd.2 hob.1
        have hob2 := hob.2
        rw [hob2] at hrr
        have hch := (chunks_iff hbc).1 hrr.1
        have hfit0 : (n + ys.length) * (tyOf P e).size ≤ cap * (tyOf P e).size := Nat.mul_le_mul_right _ hroom
        have hfit : ob + o * (tyOf P e).size + n * (tyOf P e).size + cs.length ≤ cur.size := by
         rw [hx.len]
         simp only [Nat.add_mul] at hbs hfit0
         omega
        have hst := run_storeCells_at P b (ob + o * (tyOf P e).size + n * (tyOf P e).size) ec cs 0 cur w hbc (by simpa using hfit) hx.one
        simp only [Nat.add_zero] at hst
        refine ⟨_, w.setRow b (cur.toList.take (ob + o * (tyOf P e).size + n * (tyOf P e).size) ++ cs ++ cur.toList.drop (ob + o * (tyOf P e).size + n * (tyOf P e).size + cs.length)).toArray, hK, run_append_room' (P := P) (w := w) t tx ty e i dx ht htx hdx h2 (some ⟨b, ob + o * (tyOf P e).size, none⟩) n cap ys.length xv cs hx.lenOf f2 hroom _ ?_ (fun e => by cases e), ?_⟩
        ·intro a ha
         obtain rfl := Option.some.inj ha
         rw [addr_add, ← h5]
         exact hst
        ·have hnl : (cur.toList.take (ob + o * (tyOf P e).size + n * (tyOf P e).size) ++ cs ++ cur.toList.drop (ob + o * (tyOf P e).size + n * (tyOf P e).size + cs.length)).length = cur.toList.length := splice_length (by simpa using hfit)
         have hcx : Chunks w (Av N rows Φ) noH ((xs.drop o).take n ++ ys) (tyOf P e).size ((cur.toList.take (ob + o * (tyOf P e).size + n * (tyOf P e).size) ++ cs ++ cur.toList.drop (ob + o * (tyOf P e).size + n * (tyOf P e).size + cs.length)).drop (ob + o * (tyOf P e).size)) := by
          rw [take_drop_splice (by simp; omega)]
          refine Chunks.append ?_ (by rw [hl]; simp; omega) hx.chunks.tail
          have := ((hch.drop o).take n).cut (n := n * (tyOf P e).size) (by rw [hl]; exact Nat.le_refl _)
          rwa [List.drop_drop] at this
         obtain ⟨hcore, hon⟩ := h.write h0 hob.1 hp hbc ⟨row.gen + 1, true, false, .cells (tyOf P e).size ((xs.drop o).take n ++ ys)⟩ (some (b, ob + o * (tyOf P e).size)) (cur.toList.take (ob + o * (tyOf P e).size + n * (tyOf P e).size) ++ cs ++ cur.toList.drop (ob + o * (tyOf P e).size + n * (tyOf P e).size + cs.length)).toArray (by rw [List.size_toArray, hnl]; simp) (fun _ => ⟨_, rfl⟩) (.inl (Nat.lt_succ_self _)) (by
          intro on
          unfold RowRel
          simp only [upd_same]
          have hbn := setRow_heap w b cur (cur.toList.take (ob + o * (tyOf P e).size + n * (tyOf P e).size) ++ cs ++ cur.toList.drop (ob + o * (tyOf P e).size + n * (tyOf P e).size + cs.length)).toArray ec (0, 0) hbc
          refine ⟨(chunks_iff hbn).2 (by simpa using hcx.mono on.2), by simpa using hrr.2.1, (fun h => by cases h), fun _ => ⟨_, _, hbn, ?_⟩⟩
          simp only [List.size_toArray, hnl, List.length_append, hl, Nat.add_mul]
          rw [hx.len] at hfit
          simp
          omega)
         refine ⟨_, hcore, ?_⟩
         refine ⟨_, _, rfl, hroom, (by intro e; cases e), _, lget_lput_same _ _ _, Nat.le_refl _, fun _ es' xs' hb' => ?_⟩
         obtain ⟨rfl, rfl⟩ := by simpa using hb'
         simp only [upd_same]
         refine ⟨.inr (by simp), fun _ => ⟨_, _, setRow_heap w b cur _ ec (0, 0) hbc, ?_⟩⟩
         simp only [List.size_toArray, hnl, Nat.zero_add, Array.length_toList]
         simp only [Nat.add_mul] at hbs
         omega
     ·obtain ⟨v, w', g1, g2⟩ := append_grow_fine h (ty := ty) ht hok htx hdx hs0 hl hx (by omega) hr p.r _ hlt
      exact ⟨v, w', hK, g1, g2⟩
    ·exact hh.elim
   ·exact hh.elim
  ·exact hh.elim
 | _ => exact hh.elim
end
end Go.AL
end
section
namespace Go.AL
section
variable {N PO : Nat → Prop} {w0 : Base} {w w' : World} {env : Env} {rows : Rows} {ce : Nat → Value} {Φ : Nat → Loc}
variable {P : Program} {C : FuncId → List PA → CRes → Prop} {d : Bool} {rs rr : List Nat}

theorem run_indexAt_slice {t e : TypeId} (ht : P.underlying t = some (.slice e)) {s : Nat} (hs : sizeOf P e = some s) {a : Addr} {len cap : Nat} {k : IntKind} {i : Int} (h0 : 0 ≤ i) (h1 : i < len) :
  (Instr.indexAt t (.slice (some a) len cap) (.int k i)).run P w = .ok (.pointer (some (a.add (i.toNat * s)))) w := by
 simp [Instr.indexAt, asIntOf, run_underlying ht, h0, h1, run_sizeOf_some hs]
theorem run_indexAt_arr {t e : TypeId} {len : Nat} (ht : P.underlying t = some (.array len e)) {s : Nat} (hs : sizeOf P e = some s) {a : Addr} {k : IntKind} {i : Int} (h0 : 0 ≤ i) (h1 : i < len) :
  (Instr.indexAt t (.pointer (some a)) (.int k i)).run P w = .ok (.pointer (some (a.add (i.toNat * s)))) w := by
 simp [Instr.indexAt, asIntOf, run_underlying ht, h0, h1, run_sizeOf_some hs, Instr.sureAddr]
theorem hp_add {p : Pl} {i j : Nat} {xv : Value} (hx : Hd rows Φ w (.hp p i j) xv) (n : Nat) : ∃ a, xv = .pointer (some a) ∧ Hd rows Φ w (.hp p i (j + n)) (.pointer (some (a.add n))) := by
 obtain ⟨a, rfl, row, h0, hg, hh⟩ := hx
 refine ⟨a, rfl, _, rfl, row, h0, hg, fun e es xs hb => ?_⟩
 obtain ⟨b, ob, h1, rfl⟩ := hh e es xs hb
 exact ⟨b, ob, h1, by rw [addr_add]; simp [Nat.add_assoc]⟩
theorem dp_add {A : Nat → Prop} {H : AV → Value → Prop} {es : Nat} {xs : List AV} {i j : Nat} {xv : Value} (hx : Rep w A H (.dp es xs i j) xv) (n : Nat) : ∃ a, xv = .pointer (some a) ∧ Rep w A H (.dp es xs i (j + n)) (.pointer (some (a.add n))) := by
 obtain ⟨b, o, rfl, h1, h2, h3⟩ := hx
 exact ⟨_, rfl, b, o, by rw [addr_add]; simp [Nat.add_assoc], h1, h2, h3⟩
theorem indexAddrA_sound (h : Core N PO w0 ⟨env, rows⟩ ce w Φ) {t : TypeId} {x : AV} {xv : Value} (hx : Rep w (Av N rows Φ) (Hd rows Φ w) x xv) {k : IntKind} {i : Int} {K : AV → List Nat → List Nat → Prop}
  (hh : (indexAddrA P t x i).wp C d ⟨env, rows⟩ rs rr K) :
  ∃ av rs' rr' v, K av rs' rr' ∧ (Instr.indexAt t xv (.int k i)).run P w = .ok v w ∧ Rep w (Av N rows Φ) (Hd rows Φ w) av v := by
 unfold indexAddrA at hh
 split at hh
 ·rename_i e hk
  have ht := under_slice hk
  split at hh
  ·rename_i es xs
   obtain ⟨⟨h0, h1⟩, hh⟩ := hh
   split at hh
   ·rename_i hs
    obtain ⟨a, cap, rfl, hc, hr⟩ := hx
    rcases hr with rfl | ⟨b, o, rfl, h2, h3, h4⟩
    ·simp at h1; omega
    ·exact ⟨_, _, _, _, hh, run_indexAt_slice ht hs h0 h1, b, o, by rw [addr_add]; rfl, h2, h3, h4⟩
   ·exact hh.elim
  ·rename_i p o n
   obtain ⟨a, cap, rfl, hc, hz, row, h0, hg, hhd⟩ := id hx
   simp only [rd, RM.wp, h0] at hh
   split at hh
   ·rename_i hgen
    split at hh
    ·rename_i es xs hb
     obtain ⟨⟨h1, h2⟩, hh⟩ := hh
     split at hh
     ·rename_i hs
      have hhd := hhd hgen es xs hb
      have hcap : cap ≠ 0 := by omega
      cases hp : Φ p.r with
      | none => rw [hp] at hhd; exact absurd hhd hcap
      | some y =>
       obtain ⟨b, ob⟩ := y
       rw [hp] at hhd
       rcases hhd.1 with hc0 | rfl
       ·exact absurd hc0 hcap
       ·refine ⟨_, _, _, _, hh, run_indexAt_slice ht hs h1 h2, _, rfl, row, h0, hg, fun e es' xs' hb' => ⟨b, ob, hp, ?_⟩⟩
        rw [hb] at hb'
        obtain ⟨rfl, rfl⟩ := by simpa using hb'
        rw [addr_add, Nat.add_mul]
        simp [Nat.add_assoc]
     ·exact hh.elim
    ·exact hh.elim
   ·exact hh.elim
  ·exact hh.elim
 ·rename_i len e hk
  have ht := under_arr hk
  split at hh
  ·rename_i p a j
   split at hh
   ·rename_i s hs
    obtain ⟨⟨h1, h2⟩, hh⟩ := hh
    obtain ⟨ad, rfl, hr⟩ := hp_add (w := w) hx (i.toNat * s)
    exact ⟨_, _, _, _, hh, run_indexAt_arr ht hs h1 h2, hr⟩
   ·exact hh.elim
  ·rename_i es xs a j
   split at hh
   ·rename_i s hs
    obtain ⟨⟨h1, h2⟩, hh⟩ := hh
    obtain ⟨ad, rfl, hr⟩ := dp_add hx (i.toNat * s)
    exact ⟨_, _, _, _, hh, run_indexAt_arr ht hs h1 h2, hr⟩
   ·exact hh.elim
  ·exact hh.elim
 ·exact hh.elim
theorem fieldAddrA_sound (h : Core N PO w0 ⟨env, rows⟩ ce w Φ) {t : TypeId} {x : AV} {xv : Value} (hx : Rep w (Av N rows Φ) (Hd rows Φ w) x xv) {f : Nat} {K : AV → List Nat → List Nat → Prop}
  (hh : (fieldAddrA P t x f).wp C d ⟨env, rows⟩ rs rr K) :
  ∃ av rs' rr' v, K av rs' rr' ∧ (Instr.fieldAt t xv f).run P w = .ok v w ∧ Rep w (Av N rows Φ) (Hd rows Φ w) av v := by
 unfold fieldAddrA at hh
 split at hh
 ·rename_i fs hk
  obtain ⟨gs, ht, rfl⟩ := under_struct hk
  split at hh
  ·rename_i q hq
   simp only [List.getElem?_map, Option.map_eq_some_iff, Array.getElem?_toList] at hq
   obtain ⟨g, hg, rfl⟩ := hq
   split at hh
   ·rename_i n hn
    split at hh
    ·exact hh.elim
    ·rename_i hn0
     have hrun : ∀ a : Addr, (Instr.fieldAt t (.pointer (some a)) f).run P w = .ok (.pointer (some (a.add g.offset))) w := by
      intro a
      simp [Instr.fieldAt, run_underlying ht, hg, Instr.sureAddr, fieldPlace, run_sizeOf_some hn, hn0]
     split at hh
     ·obtain ⟨a, rfl, hr⟩ := hp_add (w := w) hx g.offset
      exact ⟨_, _, _, _, hh, hrun a, hr⟩
     ·obtain ⟨a, rfl, hr⟩ := dp_add hx g.offset
      exact ⟨_, _, _, _, hh, hrun a, hr⟩
     ·exact hh.elim
   ·exact hh.elim
  ·exact hh.elim
 ·exact hh.elim

def sole : AV → Bool
 | .sc _ | .nil | .sl .. | .dp .. | .hp .. | .hs .. | .hm _ | .it | .cl .. => true
 | _ => false
theorem Hd.one {x : AV} {v : Value} (h : Hd rows Φ w x v) : v.oneCell' = true := by
 cases x with
 | hs p o n => obtain ⟨a, cap, rfl, _⟩ := h; rfl
 | hp p i j => obtain ⟨a, rfl, _⟩ := h; rfl
 | hm p => obtain ⟨a, rfl, _⟩ := h; rfl
 | _ => exact h.elim
section
variable {A : Nat → Prop} {H : AV → Value → Prop}
theorem Rep.one (hH : ∀ x v, H x v → v.oneCell' = true) {x : AV} {v : Value} (h : Rep w A H x v) (hs : sole x = true) : v.oneCell' = true := by
 cases x with
 | sc u => rw [h.1]; exact h.2
 | nil => obtain ⟨a, rfl⟩ := h; rfl
 | sl es xs => obtain ⟨a, cap, rfl, _⟩ := h; rfl
 | dp es xs i j => obtain ⟨b, o, rfl, _⟩ := h; rfl
 | hs p o n => exact hH _ _ h
 | hp p i j => exact hH _ _ h
 | hm p => exact hH _ _ h
 | it => obtain ⟨b, m, s, c, clk, rfl, _⟩ := h; rfl
 | cl f cs => obtain ⟨vs, rfl, _⟩ := h; rfl
 | _ => exact absurd hs (by simp [sole])
theorem cells_one {v : Value} (h : v.oneCell' = true) : v.cells = #[v] := by cases v <;> first | rfl | exact absurd h (by simp [Value.oneCell'])
theorem RepL.imp {A' : Nat → Prop} {H' : AV → Value → Prop} (hh : ∀ x v, Rep w A H x v → Rep w' A' H' x v) : ∀ {xs : List AV} {vs : List Value}, RepL w A H xs vs → RepL w' A' H' xs vs
 | [], [], _ => trivial
 | _ :: _, _ :: _, h => ⟨hh _ _ h.1, RepL.imp hh h.2⟩
 | [], _ :: _, h => h.elim
 | _ :: _, [], h => h.elim
theorem RepL.drop : ∀ {xs : List AV} {vs : List Value} (n : Nat), RepL w A H xs vs → RepL w A H (xs.drop n) (vs.drop n)
 | xs, vs, 0, h => by simpa using h
 | [], [], _ + 1, _ => trivial
 | _ :: _, _ :: _, n + 1, h => RepL.drop n h.2
 | [], _ :: _, _, h => h.elim
 | _ :: _, [], _, h => h.elim
theorem RepL.take : ∀ {xs : List AV} {vs : List Value} (n : Nat), RepL w A H xs vs → RepL w A H (xs.take n) (vs.take n)
 | xs, vs, 0, h => trivial
 | [], [], _ + 1, _ => trivial
 | _ :: _, _ :: _, n + 1, h => ⟨h.1, RepL.take n h.2⟩
 | [], _ :: _, _, h => h.elim
 | _ :: _, [], _, h => h.elim
theorem RepL.append : ∀ {xs ys : List AV} {vs us : List Value}, RepL w A H xs vs → RepL w A H ys us → RepL w A H (xs ++ ys) (vs ++ us)
 | [], _, [], _, _, h => h
 | _ :: _, _, _ :: _, _, h, h' => ⟨h.1, RepL.append h.2 h'⟩
 | [], _, _ :: _, _, h, _ => h.elim
 | _ :: _, _, [], _, h, _ => h.elim
theorem RepL.splicing {cs new : List AV} {us vs : List Value} (h : RepL w A H cs us) (h' : RepL w A H new vs) (j : Nat) : RepL w A H (AL.splice cs j new) (us.take j ++ (vs ++ us.drop (j + vs.length))) := by
 unfold AL.splice
 refine (h.take j).append (h'.append ?_)
 rw [← h'.length]
 exact h.drop _
theorem run_loadVar_agg {t : TypeId} (hok : (tyOf P t).ok = true) (ha : (tyOf P t).k.isAgg = true) {a : Addr} {cs : List Value} (hl : cs.length = (tyOf P t).size) (h : ∀ j v, cs[j]? = some v → w.cell? (a.add j) = some v) :
  (loadVar t a).run P w = .ok (.agg cs.toArray) w := by
 obtain ⟨de, i, z, h1, h2, h3, h4, h5, h6, h7, h8, h9, h10⟩ := tyOf_ok hok
 have hagg := isAgg_kind h1 w
 rw [← h4, ha] at hagg
 have hl' := run_loadCells_list (P := P) w a cs h
 rw [hl, h5] at hl'
 simp [loadVar, hagg, Go.sizeOf, typeInfo, h2, hl']
theorem run_loadVar_one {t : TypeId} (hok : (tyOf P t).ok = true) (ha : (tyOf P t).k.isAgg = false) {a : Addr} {v : Value} (h : w.cell? a = some v) :
  (loadVar t a).run P w = .ok v w := by
 obtain ⟨de, i, z, h1, h2, h3, h4, h5, h6, h7, h8, h9, h10⟩ := tyOf_ok hok
 have hagg := isAgg_kind h1 w
 rw [← h4, ha] at hagg
 simp [loadVar, hagg, h]
theorem size_one {t : TypeId} (hok : (tyOf P t).ok = true) (ha : (tyOf P t).k.isAgg = false) : (tyOf P t).size = 1 := by
 obtain ⟨de, i, z, h1, h2, h3, h4, h5, h6, h7, h8, h9, h10⟩ := tyOf_ok hok
 rw [← h4, ha] at h10
 rw [h5, ← h9]
 cases hv : ofValue z <;> simp [hv, isAggAV] at h10 <;> rfl
theorem load_part (hH : ∀ x v, H x v → v.oneCell' = true) {t : TypeId} (hok : (tyOf P t).ok = true) {x : AV} {u : Value} (hx : Rep w A H x u) {es : Nat} (hus : u.cells.size = es) {b o j : Nat} (hc : HasCells w b o u.cells.toList) (hj : j + (tyOf P t).size ≤ es) :
  ∃ v, (loadVar t ⟨b, o + j, none⟩).run P w = .ok v w ∧ Rep w A H (partOf (tyOf P t).k.isAgg (tyOf P t).size es x j) v := by
 cases ha : (tyOf P t).k.isAgg with
 | true =>
  refine ⟨_, run_loadVar_agg hok ha (cs := (u.cells.toList.drop j).take (tyOf P t).size) (by simp; omega) ?_, ?_⟩
  ·intro k v hk
   rw [List.getElem?_take] at hk
   split at hk
   ·rw [List.getElem?_drop] at hk
    rw [addr_add, Nat.add_assoc]
    exact (hc (j + k) v hk).2
   ·cases hk
  ·cases x with
   | agg cs =>
    obtain ⟨vs, rfl, h1, h2⟩ := hx
    have e0 : (Value.agg vs).cells = vs := rfl
    rw [e0] at hus hc ⊢
    unfold partOf
    simp only [if_true]
    split
    ·rename_i hjs
     obtain ⟨rfl, rfl⟩ := hjs
     refine ⟨_, rfl, ?_, ?_⟩
     ·intro y hy
      exact h1 y (List.mem_of_mem_take (by simpa using hy))
     ·rw [List.drop_zero, List.take_of_length_le (by simp; omega)]
      exact h2
    ·refine ⟨_, rfl, ?_, ?_⟩
     ·intro y hy
      exact h1 y (List.mem_of_mem_drop (List.mem_of_mem_take (by simpa using hy)))
     ·exact (h2.drop j).take _
   | _ => exact trivial
 | false =>
  have hs1 := size_one hok ha
  have hjl : j < u.cells.toList.length := by rw [Array.length_toList]; omega
  refine ⟨_, run_loadVar_one hok ha (hc j _ (List.getElem?_eq_getElem hjl)).2, ?_⟩
  cases x with
  | agg cs =>
   obtain ⟨vs, rfl, h1, h2⟩ := hx
   have hcl := h2.length
   have hjc : j < cs.length := by rw [hcl]; exact hjl
   obtain ⟨v, g1, g2⟩ := h2.at j cs[j] (List.getElem?_eq_getElem hjc)
   have : (Value.agg vs).cells.toList[j] = v := by
    rw [show vs.toList[j]? = (Value.agg vs).cells.toList[j]? from rfl, List.getElem?_eq_getElem hjl] at g1
    exact Option.some.inj g1
   rw [this]
   simp only [partOf, at_, List.getD, List.getElem?_eq_getElem hjc, Option.getD]
   exact g2
  | junk => exact trivial
  | nst => exact trivial
  | tup cs => exact trivial
  | _ =>
   have h1 := cells_one (hx.one hH rfl)
   have hj0 : j = 0 := by rw [h1] at hjl; simp at hjl; exact hjl
   subst hj0
   have : u.cells.toList[0] = u := by simp [h1]
   rw [this]
   exact hx
end
theorem noH_one : ∀ x v, noH x v → v.oneCell' = true := fun _ _ h => h.elim
theorem Rep.ofNoH {x : AV} {v : Value} {A : Nat → Prop} {H : AV → Value → Prop} (h : Rep w A noH x v) : Rep w A H x v := Rep.mono (fun b hb hl => ⟨rfl, hb⟩) (Nat.le_refl _) (fun _ _ h => h.elim) h
theorem at_eq {xs : List AV} {i : Nat} (h : i < xs.length) : xs[i]? = some (at_ xs i) := by simp [at_, List.getD, List.getElem?_eq_getElem h]
theorem hp_place (hrow : ∀ r row, lget rows r = some row → RowRel w N rows Φ r row) {p : Pl} {i j : Nat} {v : Value} (hv : Hd rows Φ w (.hp p i j) v) {row : Row} (h0 : lget rows p.r = some row) (hg : row.gen = p.g) {es : Nat} {xs : List AV} (hb : row.body = .cells es xs) :
  ∃ b ob, Φ p.r = some (b, ob) ∧ v = .pointer (some ⟨b, ob + i * es + j, none⟩) ∧ RepRow w (Av N rows Φ) (if row.box then Hd rows Φ w else noH) xs b ob es ∧ b < w.heap.size ∧ (row.own = false → ¬ Av N rows Φ b) ∧
   (row.own = true → ∃ c e, w.heap[b]? = some (.cells c e (0, 0)) ∧ ob + xs.length * es ≤ c.size) := by
 obtain ⟨a, rfl, row', h0', hg', hh⟩ := hv
 rw [h0] at h0'
 obtain rfl := Option.some.inj h0'
 obtain ⟨b, ob, h1, rfl⟩ := hh hg es xs hb
 have hrr := hrow p.r row h0
 unfold RowRel at hrr
 simp only [hb, h1] at hrr
 exact ⟨b, ob, h1, rfl, hrr⟩
theorem loadA_sound (hrow : ∀ r row, lget rows r = some row → RowRel w N rows Φ r row) {t : TypeId} {x : AV} {xv : Value} (hx : Rep w (Av N rows Φ) (Hd rows Φ w) x xv) {K : AV → List Nat → List Nat → Prop}
  (hh : (loadA P t x).wp C d ⟨env, rows⟩ rs rr K) :
  ∃ av rs' rr' v a, K av rs' rr' ∧ xv = .pointer (some a) ∧ (loadVar t a).run P w = .ok v w ∧ Rep w (Av N rows Φ) (Hd rows Φ w) av v := by
 unfold loadA at hh
 split at hh
 ·rename_i hok
  split at hh
  ·rename_i es xs i j
   obtain ⟨⟨h1, h2⟩, hh⟩ := hh
   obtain ⟨b, o, rfl, g1, g2, g3⟩ := hx
   obtain ⟨u, k1, k2, k3⟩ := g3.at i _ (at_eq h1)
   obtain ⟨v, r1, r2⟩ := load_part (P := P) noH_one hok k3 k1 k2 h2
   exact ⟨_, _, _, v, _, hh, rfl, r1, r2.ofNoH⟩
  ·rename_i p i j
   obtain ⟨a, e, row, h0, hg, hhd⟩ := id hx
   simp only [rd, RM.wp, h0] at hh
   split at hh
   ·rename_i hgen
    split at hh
    ·rename_i es xs hb
     obtain ⟨⟨h1, h2⟩, hh⟩ := hh
     obtain ⟨b, ob, k1, k2, k3, _⟩ := hp_place hrow hx h0 hgen hb
     obtain ⟨u, q1, q2, q3⟩ := k3.at i _ (at_eq h1)
     cases hbx : row.box with
     | true =>
      rw [hbx, if_pos rfl] at q3
      obtain ⟨v, r1, r2⟩ := load_part (P := P) (fun _ _ => Hd.one) hok q3 q1 q2 h2
      exact ⟨_, _, _, v, _, hh, k2, r1, r2⟩
     | false =>
      rw [hbx] at q3
      obtain ⟨v, r1, r2⟩ := load_part (P := P) (H := noH) noH_one hok (by simpa using q3) q1 q2 h2
      exact ⟨_, _, _, v, _, hh, k2, r1, r2.ofNoH⟩
    ·exact hh.elim
   ·exact hh.elim
  ·exact hh.elim
 ·exact hh.elim
end
end Go.AL
end
section
namespace Go.AL
theorem putRows_append : ∀ {a b : Wr} {rows : Rows}, putRows rows (a ++ b) = putRows (putRows rows a) b
 | [], _, _ => rfl
 | (k, r) :: l, b, rows => putRows_append (a := l) (b := b) (rows := lput rows k r)
theorem notIn_get : ∀ {wr : Wr} {rows : Rows} {r : Nat}, notIn r wr = true → lget (putRows rows wr) r = lget rows r
 | [], _, _, _ => rfl
 | (k, w) :: l, rows, r, h => by
  unfold notIn at h
  split at h
  ·cases h
  ·rename_i hk
   rw [putRows, notIn_get h, lget_lput_ne _ (fun e => hk e.symm)]
section
variable {N PO : Nat → Prop} {w0 : Base} {w w' : World} {env : Env} {rows : Rows} {ce : Nat → Value} {Φ : Nat → Loc}
variable {P : Program} {C : FuncId → List PA → CRes → Prop} {d : Bool} {rs rr : List Nat}

theorem fixCells_sound {slcs : List (Nat × Nat)} {r j0 : Nat} : ∀ {l : List AV} {vs : List Value} {j : Nat} {ρ : Rows} {Φ : Nat → Loc} {rs rr : List Nat} {K : List AV × Wr → List Nat → List Nat → Prop},
  Core N PO w0 ⟨env, ρ⟩ ce w Φ → (∀ k, j ≤ k → lget ρ (nestKey r (j0 + k)) = lget rows (nestKey r (j0 + k))) → RepL w (Av N ρ Φ) (Hd ρ Φ w) l vs → (fixCells slcs r j0 j l).wp C d ⟨env, rows⟩ rs rr K →
  ∃ cs wr rs' rr' Φ', K (cs, wr) rs' rr' ∧ Core N PO w0 ⟨env, putRows ρ wr⟩ ce w Φ' ∧ Onward N ρ (putRows ρ wr) Φ Φ' w w ∧ RepL w (Av N (putRows ρ wr) Φ') (Hd (putRows ρ wr) Φ' w) cs vs ∧
   (∀ v ∈ vs, v.oneCell' = true) ∧ (∀ k, (∀ m, j ≤ m → k ≠ nestKey r (j0 + m)) → lget (putRows ρ wr) k = lget ρ k ∧ Φ' k = Φ k)
 | [], [], j, ρ, Φ, rs, rr, K, h, _, _, hh => ⟨_, _, _, _, Φ, hh, h, .refl, trivial, (fun _ h => by cases h), fun _ _ => ⟨rfl, rfl⟩⟩
 | x :: l, v :: vs, j, ρ, Φ, rs, rr, K, h, hk, hr, hh => by
  have plain : (fixCells slcs r j0 (j + 1) l).wp C d ⟨env, rows⟩ rs rr (fun y rs rr => K (x :: y.1, y.2) rs rr) → sole x = true → ∃ cs wr rs' rr' Φ', K (cs, wr) rs' rr' ∧ Core N PO w0 ⟨env, putRows ρ wr⟩ ce w Φ' ∧ Onward N ρ (putRows ρ wr) Φ Φ' w w ∧ RepL w (Av N (putRows ρ wr) Φ') (Hd (putRows ρ wr) Φ' w) cs (v :: vs) ∧
   (∀ v' ∈ v :: vs, v'.oneCell' = true) ∧ (∀ k, (∀ m, j ≤ m → k ≠ nestKey r (j0 + m)) → lget (putRows ρ wr) k = lget ρ k ∧ Φ' k = Φ k) := by
   intro hh hs
   obtain ⟨cs, wr, rs', rr', Φ', h1, h2, h3, h4, h5, h6⟩ := fixCells_sound h (fun k hk' => hk k (by omega)) hr.2 hh
   refine ⟨x :: cs, wr, rs', rr', Φ', h1, h2, h3, ⟨h3.1 _ _ hr.1, h4⟩, ?_, fun k hk' => h6 k fun m hm => hk' m (by omega)⟩
   intro v' hv'
   rcases List.mem_cons.1 hv' with rfl | hv'
   ·exact hr.1.one (fun _ _ => Hd.one) hs
   ·exact h5 v' hv'
  cases x with
  | nil =>
   simp only [fixCells, mk, RM.wp, RM.wp_bind] at hh
   obtain ⟨a, rfl⟩ := hr.1
   have hgen : FreshG ρ (nestKey r (j0 + j)) (freshGen (lget rows (nestKey r (j0 + j)))) := by
    rw [← hk j (Nat.le_refl _)]
    exact fresh_gen
   obtain ⟨g1, g2⟩ := h.freshNil (nestKey r (j0 + j)) _ ((lget slcs j).getD 0) hgen
   obtain ⟨cs, wr, rs', rr', Φ', h1, h2, h3, h4, h5, h6⟩ := fixCells_sound (j := j + 1) g1 (fun k hk' => by
    rw [lget_lput_ne _ (by unfold nestKey; omega)]
    exact hk k (by omega)) (hr.2.imp g2.1) hh
   refine ⟨_, _, rs', rr', Φ', h1, h2, g2.trans h3, ⟨h3.1 _ _ Rep_freshNil, h4⟩, ?_, fun k hk' => ?_⟩
   ·intro v' hv'
    rcases List.mem_cons.1 hv' with rfl | hv'
    ·rfl
    ·exact h5 v' hv'
   ·obtain ⟨q1, q2⟩ := h6 k fun m hm => hk' m (by omega)
    have hne := hk' j (Nat.le_refl _)
    exact ⟨q1.trans (lget_lput_ne _ hne), q2.trans (upd_ne hne)⟩
  | junk => exact hh.elim
  | nst => exact hh.elim
  | it => exact hh.elim
  | agg cs => exact hh.elim
  | tup cs => exact hh.elim
  | _ =>
   simp only [fixCells, RM.wp_bind] at hh
   exact plain hh rfl
 | [], _ :: _, _, _, _, _, _, _, _, _, hr, _ => hr.elim
 | _ :: _, [], _, _, _, _, _, _, _, _, hr, _ => hr.elim

theorem Rep_box {key g es : Nat} {x : AV} {o : Obj} (hp : Pushed w w' o) : Hd (lput rows key ⟨g, true, true, .cells es [x]⟩) (upd Φ key (some (w.heap.size, 0))) w' (.hp ⟨key, g⟩ 0 0) (.pointer (some ⟨w.heap.size, 0, none⟩)) :=
 ⟨_, rfl, _, lget_lput_same _ _ _, Nat.le_refl _, fun _ es' xs' hb => ⟨_, _, upd_same _ _ _, by simp⟩⟩
theorem boxA_sound (h : Core N PO w0 ⟨env, rows⟩ ce w Φ) {dst : Nat} {t : TypeId} {x : AV} {v : Value} (hx : Rep w (Av N rows Φ) (Hd rows Φ w) x v) {K : Eff → List Nat → List Nat → Prop} (hh : (boxA P dst t x).wp C d ⟨env, rows⟩ rs rr K) :
  ∃ ef rs' rr', K ef rs' rr' ∧ ∀ w', Pushed w w' (.cells v.cells t) → Fine N PO w0 env ce (putRows rows ef.rows) w' ef.val (.pointer (some ⟨w.heap.size, 0, none⟩)) := by
 unfold boxA at hh
 split at hh
 ·rename_i hok
  have hne : ∀ m, 0 ≤ m → dst ≠ nestKey dst (0 + m) := fun m _ => by unfold nestKey; omega
  split at hh
  ·split at hh
   ·rename_i cs
    obtain ⟨hlen, hh⟩ := hh
    rw [RM.wp_bind] at hh
    obtain ⟨vs, rfl, h1, h2⟩ := hx
    obtain ⟨cs', wr, rs', rr', Φ', g1, g2, g3, g4, g5, g6⟩ := fixCells_sound (ρ := rows) h (fun _ _ => rfl) h2 hh
    simp only [mk, RM.wp] at g1
    refine ⟨_, _, _, g1, fun w' hp => ?_⟩
    obtain ⟨q1, q2⟩ := g6 dst hne
    rw [putRows_append]
    obtain ⟨k1, k2⟩ := g2.fresh dst (freshGen (lget rows dst)) true (es := (tyOf P t).size) (xs := [.agg cs']) (by rw [← q1]; exact fresh_gen) hp (by
     refine Chunks.one (v := .agg vs) ?_ h1 ⟨vs, rfl, h1, g4⟩
     have := h2.length
     rw [show cs.length = (tyOf P t).size from hlen] at this
     simpa [Value.cells] using this.symm)
    exact ⟨_, k1, Rep_box hp⟩
   ·exact hh.elim
  ·rename_i hag
   rw [RM.wp_bind] at hh
   obtain ⟨cs', wr, rs', rr', Φ', g1, g2, g3, g4, g5, g6⟩ := fixCells_sound (ρ := rows) (l := [x]) (vs := [v]) h (fun _ _ => rfl) ⟨hx, trivial⟩ hh
   simp only [mk, RM.wp] at g1
   refine ⟨_, _, _, g1, fun w' hp => ?_⟩
   obtain ⟨q1, q2⟩ := g6 dst hne
   rw [putRows_append]
   have h1 := g5 v (.head _)
   obtain ⟨c, rfl⟩ : ∃ c, cs' = [c] := by
    have := g4.length
    match cs', this with
    | [c], _ => exact ⟨c, rfl⟩
   obtain ⟨k1, k2⟩ := g2.fresh dst (freshGen (lget rows dst)) true (es := 1) (xs := [at_ [c] 0]) (by rw [← q1]; exact fresh_gen) hp (by
     refine Chunks.one (v := v) (by rw [cells_one h1]; rfl) (fun u hu => ?_) g4.1
     rw [cells_one h1] at hu
     simp at hu
     rw [hu]; exact h1)
   exact ⟨_, k1, Rep_box hp⟩
 ·exact hh.elim

theorem splice_chunk {α : Type} {l new : List α} {ob i es j : Nat} (hj : j + new.length ≤ es) (hl : ob + i * es + es ≤ l.length) :
  (l.take (ob + i * es + j) ++ new ++ l.drop (ob + i * es + j + new.length)).drop ob = (l.drop ob).take (i * es) ++ (((((l.drop ob).drop (i * es)).take es).take j ++ (new ++ (((l.drop ob).drop (i * es)).take es).drop (j + new.length))) ++ (l.drop ob).drop (i * es + es)) := by
 generalize i * es = q at *
 rw [show ob + q + j = ob + (q + j) by omega, take_drop_splice (by omega)]
 have e1 : (l.drop ob).take (q + j) = (l.drop ob).take q ++ (((l.drop ob).drop q).take es).take j := by
  rw [List.take_take, Nat.min_eq_left (by omega), ← List.take_add]
 rw [e1, List.append_assoc, List.append_assoc, List.append_assoc]
 congr 3
 rw [List.drop_take, List.drop_drop, List.drop_drop, List.drop_drop]
 have e2 : l.drop (ob + (q + es)) = (l.drop (ob + (q + (j + new.length)))).drop (es - (j + new.length)) := by
  rw [List.drop_drop]; congr 1; omega
 rw [e2, List.take_append_drop]
 congr 1
 omega
theorem set_eq_splice {α : Type} {l : List α} {j : Nat} {v : α} (h : j < l.length) : l.set j v = l.take j ++ ([v] ++ l.drop (j + 1)) := by
 rw [List.set_eq_take_append_cons_drop, if_pos h]; rfl
theorem setPart_sound {A : Nat → Prop} {H : AV → Value → Prop} {ag : Bool} {size es j : Nat} {x y : AV} {u v : Value} (hx : Rep w A H x u) (hus : u.cells.size = es) (hu1 : ∀ z ∈ u.cells.toList, z.oneCell' = true) (hy : Rep w A H y v) (hvs : v.cells.size = size) (hv1 : ∀ z ∈ v.cells.toList, z.oneCell' = true)
  (hj : j + size ≤ es) (hag : ag = true → ∃ ys, y = .agg ys) (hnag : ag = false → v.oneCell' = true) :
  ∃ v', v'.cells.toList = u.cells.toList.take j ++ (v.cells.toList ++ u.cells.toList.drop (j + v.cells.toList.length)) ∧ Rep w A H (setPart ag size es x j y) v' := by
 have hall : ∀ z ∈ u.cells.toList.take j ++ (v.cells.toList ++ u.cells.toList.drop (j + v.cells.toList.length)), z.oneCell' = true := by
  intro z hz
  rcases List.mem_append.1 hz with hz | hz
  ·exact hu1 z (List.mem_of_mem_take hz)
  ·rcases List.mem_append.1 hz with hz | hz
   ·exact hv1 z hz
   ·exact hu1 z (List.mem_of_mem_drop hz)
 have junkcase : ∃ v', v'.cells.toList = u.cells.toList.take j ++ (v.cells.toList ++ u.cells.toList.drop (j + v.cells.toList.length)) ∧ Rep w A H .junk v' :=
  ⟨.agg (u.cells.toList.take j ++ (v.cells.toList ++ u.cells.toList.drop (j + v.cells.toList.length))).toArray, rfl, trivial⟩
 unfold setPart
 cases ag with
 | true =>
  simp only [if_true]
  split
  ·rename_i hjs
   obtain ⟨rfl, rfl⟩ := hjs
   refine ⟨v, ?_, hy⟩
   rw [List.drop_of_length_le (by simp; omega)]
   simp
  ·split
   ·rename_i cs
    obtain ⟨us, rfl, h1, h2⟩ := hx
    obtain ⟨ys, rfl⟩ := hag rfl
    obtain ⟨vs, rfl, g1, g2⟩ := hy
    exact ⟨.agg ((us.toList.take j ++ (vs.toList ++ us.toList.drop (j + vs.toList.length))).toArray), by simp [Value.cells], _, rfl, hall, h2.splicing g2 j⟩
   ·exact junkcase
 | false =>
  have h1 := hnag rfl
  have hc := cells_one h1
  simp only [Bool.false_eq_true, if_false]
  split
  ·rename_i cs
   obtain ⟨us, rfl, g1, g2⟩ := hx
   have hjl : j < us.toList.length := by
    have e0 : (Value.agg us).cells = us := rfl
    rw [e0] at hus
    rw [hc] at hvs
    simp at hvs ⊢
    omega
   refine ⟨.agg (us.toList.set j v).toArray, ?_, _, rfl, ?_, ?_⟩
   ·rw [hc]
    show us.toList.set j v = _
    rw [set_eq_splice hjl]
    rfl
   ·rw [set_eq_splice hjl]
    rw [hc] at hall
    exact hall
   ·rw [set_eq_splice hjl, set_eq_splice (by rw [g2.length]; exact hjl)]
    exact (g2.take j).append (RepL.append (xs := [y]) (vs := [v]) ⟨hy, trivial⟩ (g2.drop _))
  ·split
   ·rename_i he
    refine ⟨v, ?_, hy⟩
    rw [hc] at hvs ⊢
    simp at hvs
    have : j = 0 := by omega
    subst this
    rw [List.drop_of_length_le (by simp; omega)]
    simp
   ·exact junkcase

theorem sizeOf_ok {t : TypeId} (hok : (tyOf P t).ok = true) (w : World) : (Go.sizeOf t).run P w = .ok (tyOf P t).size w := by
 obtain ⟨de, i, z, h1, h2, h3, h4, h5, h6, h7, h8, h9, h10⟩ := tyOf_ok hok
 simp [Go.sizeOf, typeInfo, h2, h5]
theorem store_part (h : Core N PO w0 ⟨env, rows⟩ ce w Φ) {r : Nat} {row : Row} (h0 : lget rows r = some row) (ho : row.own = true) {es : Nat} {xs : List AV} (hb : row.body = .cells es xs) {b ob : Nat} (hp : Φ r = some (b, ob)) {i j : Nat} (hi : i < xs.length)
  {t : TypeId} (hok : (tyOf P t).ok = true) (hj : j + (tyOf P t).size ≤ es) {y : AV} {v : Value} (hy : Rep w (Av N rows Φ) (if row.box then Hd rows Φ w else noH) y v) (hvs : v.cells.size = (tyOf P t).size) (hv1 : ∀ z ∈ v.cells.toList, z.oneCell' = true)
  {ag : Bool} {size : Nat} (hsize : size = (tyOf P t).size) (hag : ag = true → ∃ ys, y = .agg ys) (hnag : ag = false → v.oneCell' = true) :
  ∃ w', (Instr.storeAt t (.pointer (some ⟨b, ob + i * es + j, none⟩)) v).run P w = .ok () w' ∧ ∀ av u, Rep w (Av N rows Φ) (Hd rows Φ w) av u → Fine N PO w0 env ce (lput rows r { row with body := .cells es (xs.set i (setPart ag size es (at_ xs i) j y)) }) w' av u := by
 subst hsize
 have hrr := h.rows r row h0
 unfold RowRel at hrr
 simp only [hb, hp] at hrr
 obtain ⟨k1, k2, k3, k4⟩ := hrr
 obtain ⟨cur, e, hbc, hbs⟩ := k4 ho
 have hch := (chunks_iff hbc).1 k1
 obtain ⟨u, q1, q2, q3, q4⟩ := hch.at (at_eq hi)
 obtain ⟨v', p1, p2⟩ := setPart_sound (ag := ag) q4 q1 q2 hy hvs hv1 hj hag hnag
 have hle : i * es + es ≤ xs.length * es := by
  rw [← Nat.succ_mul]; exact Nat.mul_le_mul_right _ hi
 have hvl : v.cells.toList.length = (tyOf P t).size := by simpa using hvs
 have hst := run_storeCells_at P b (ob + i * es + j) e v.cells.toList 0 cur w hbc (by rw [hvl]; omega) hv1
 simp only [Nat.add_zero] at hst
 have hnl : (cur.toList.take (ob + i * es + j) ++ v.cells.toList ++ cur.toList.drop (ob + i * es + j + v.cells.toList.length)).length = cur.toList.length := splice_length (by rw [hvl]; simp; omega)
 have hv's : v'.cells.size = es := by
  rw [← Array.length_toList, p1]
  have hul : u.cells.toList.length = es := by simpa using q1
  simp only [List.length_append, List.length_take, List.length_drop, hul, hvl]
  omega
 have hv'1 : ∀ z ∈ v'.cells.toList, z.oneCell' = true := by
  rw [p1]
  intro z hz
  rcases List.mem_append.1 hz with hz | hz
  ·exact q2 z (List.mem_of_mem_take hz)
  ·rcases List.mem_append.1 hz with hz | hz
   ·exact hv1 z hz
   ·exact q2 z (List.mem_of_mem_drop hz)
 have hnew := hch.set hi hv's hv'1 p2
 refine ⟨w.setRow b (cur.toList.take (ob + i * es + j) ++ v.cells.toList ++ cur.toList.drop (ob + i * es + j + v.cells.toList.length)).toArray, ?_, fun av u' hav => ?_⟩
 ·simp only [Instr.storeAt, Instr.sureAddr, storeVar, Sem.run_bind, Sem.run_pure, Result.andThen_ok, sizeOf_ok hok, hvs, ne_eq, not_true_eq_false, if_false]
  exact hst
 ·obtain ⟨g1, g2⟩ := h.write h0 ho hp hbc { row with body := .cells es (xs.set i (setPart ag (tyOf P t).size es (at_ xs i) j y)) } (Φ r) (cur.toList.take (ob + i * es + j) ++ v.cells.toList ++ cur.toList.drop (ob + i * es + j + v.cells.toList.length)).toArray
   (by rw [List.size_toArray, hnl]; simp) (fun _ => ⟨ob, hp⟩) (.inr ⟨rfl, rfl, by rw [hb]; rfl, rfl⟩) (by
    intro on
    have hbn := setRow_heap w b cur (cur.toList.take (ob + i * es + j) ++ v.cells.toList ++ cur.toList.drop (ob + i * es + j + v.cells.toList.length)).toArray e (0, 0) hbc
    unfold RowRel
    rw [upd_self]
    simp only [hp]
    rw [upd_self] at on
    refine ⟨(chunks_iff hbn).2 ?_, by simpa using k2, (fun e => by rw [ho] at e; cases e), fun _ => ⟨_, _, hbn, ?_⟩⟩
    ·show Chunks _ _ _ _ _ (List.drop ob (List.toArray _).toList)
     rw [List.toList_toArray, splice_chunk (by rw [hvl]; exact hj) (by simp; omega), q3, ← p1]
     refine hnew.mono fun x z hz => ?_
     by_cases hbx : row.box = true
     ·rw [if_pos hbx] at hz ⊢; exact on.1 _ _ hz
     ·rw [if_neg hbx] at hz ⊢; exact on.2 _ _ hz
    ·rw [List.size_toArray, hnl]
     simpa using hbs)
  exact ⟨_, g1, g2.1 _ _ hav⟩
theorem storeA_sound (h : Core N PO w0 ⟨env, rows⟩ ce w Φ) {t : TypeId} {x y : AV} {xv v : Value} (hx : Rep w (Av N rows Φ) (Hd rows Φ w) x xv) (hy : Rep w (Av N rows Φ) (Hd rows Φ w) y v) {K : Eff → List Nat → List Nat → Prop} (hh : (storeA P t x y).wp C d ⟨env, rows⟩ rs rr K) :
  ∃ ef rs' rr' w', K ef rs' rr' ∧ (Instr.storeAt t xv v).run P w = .ok () w' ∧ ∀ u, Fine N PO w0 env ce (putRows rows ef.rows) w' ef.val u := by
 unfold storeA at hh
 split at hh
 ·rename_i hok
  split at hh
  ·rename_i p i j
   obtain ⟨a, e0, row, h0, hg, hhd⟩ := id hx
   simp only [rd, RM.wp, h0] at hh
   split at hh
   ·rename_i hgen
    split at hh
    ·rename_i es xs hb
     split at hh
     ·rename_i hown
      obtain ⟨⟨h1, h2⟩, hh⟩ := hh
      obtain ⟨b, ob, k1, rfl, _⟩ := hp_place h.rows hx h0 hgen hb
      have hne : ∀ m, 0 ≤ m → p.r ≠ nestKey p.r (j + m) := fun m _ => by unfold nestKey; omega
      split at hh
      ·rename_i hbox
       split at hh
       ·rename_i hag
        split at hh
        ·rename_i cs
         obtain ⟨hlen, hh⟩ := hh
         rw [RM.wp_bind] at hh
         obtain ⟨vs, rfl, q1, q2⟩ := hy
         obtain ⟨cs', wr, rs', rr', Φ', g1, g2, g3, g4, g5, g6⟩ := fixCells_sound (ρ := rows) h (fun _ _ => rfl) q2 hh
         obtain ⟨s1, s2⟩ := g6 p.r hne
         obtain ⟨w', r1, r2⟩ := store_part (P := P) g2 (s1.trans h0) hown hb (s2.trans k1) h1 hok h2 (y := .agg cs') (v := .agg vs) (by rw [hbox]; exact ⟨vs, rfl, q1, g4⟩)
          (by have := q2.length; rw [show cs.length = (tyOf P t).size from hlen] at this; simpa [Value.cells] using this.symm) q1 (ag := true) rfl (fun _ => ⟨_, rfl⟩) (fun e => by cases e)
         refine ⟨_, _, _, w', g1, r1, fun u => ?_⟩
         rw [putRows_append]
         exact r2 .junk u trivial
        ·exact hh.elim
       ·rename_i hag
        rw [RM.wp_bind] at hh
        obtain ⟨cs', wr, rs', rr', Φ', g1, g2, g3, g4, g5, g6⟩ := fixCells_sound (ρ := rows) (l := [y]) (vs := [v]) h (fun _ _ => rfl) ⟨hy, trivial⟩ hh
        obtain ⟨s1, s2⟩ := g6 p.r hne
        obtain ⟨c, rfl⟩ : ∃ c, cs' = [c] := by
         have := g4.length
         match cs', this with
         | [c], _ => exact ⟨c, rfl⟩
        have hv1 := g5 v (.head _)
        have hs1 := size_one hok (by simpa using hag)
        obtain ⟨w', r1, r2⟩ := store_part (P := P) g2 (s1.trans h0) hown hb (s2.trans k1) h1 hok h2 (y := c) (v := v) (by rw [hbox]; exact g4.1)
         (by rw [cells_one hv1, hs1]; rfl) (by rw [cells_one hv1]; intro z hz; simp at hz; rw [hz]; exact hv1) (ag := false) (size := 1) hs1.symm (fun e => by cases e) (fun _ => hv1)
        refine ⟨_, _, _, w', g1, r1, fun u => ?_⟩
        rw [putRows_append]
        exact r2 .junk u trivial
      ·rename_i hbox
       rw [RM.wp_bind] at hh
       obtain ⟨y', wr, rs', rr', g1, g2, g3, g4, g5, g6, g7⟩ := giveT_sound h.rows hy hh
       obtain ⟨⟨c1, c2, c3⟩, g1⟩ := g1
       have hfz := g2.put (Frz.refl rows)
       have hcore := hfz.core h
       have hrep := g7 _ hfz (fun r row hm => g2.get (.inl hm)) hcore.rows
       have s1 : lget (putRows rows wr) p.r = some row := (notIn_get c3).trans h0
       obtain ⟨w', r1, r2⟩ := store_part (P := P) hcore s1 hown hb k1 h1 hok h2 (y := y') (v := v) (by rw [if_neg hbox]; exact hrep) (by rw [g6]; exact c1) g3 (ag := (tyOf P t).k.isAgg) rfl
        (fun e => by
         have c2 : isAggAV y' = _ := c2
         rw [e] at c2
         cases y' <;> simp [isAggAV] at c2
         exact ⟨_, rfl⟩)
        (fun e => by
         have hs1 := size_one hok e
         have c1 : (cellsOf y').length = _ := c1
         have c2 : isAggAV y' = _ := c2
         rw [e] at c2
         have : ¬ ∃ vs, v = .agg vs := fun hv => by rw [g5.2 hv] at c2; cases c2
         cases v with
         | agg vs => exact absurd ⟨_, rfl⟩ this
         | _ => exact g3 _ (by simp [Value.cells]))
       refine ⟨_, _, _, w', g1, r1, fun u => ?_⟩
       rw [putRows_append]
       exact r2 .junk u trivial
     ·exact hh.elim
    ·exact hh.elim
   ·exact hh.elim
  ·exact hh.elim
 ·exact hh.elim
end
end Go.AL
end
section
namespace Go.AL
section
variable {P : Program}
theorem run_mapM {α β : Type} {f : α → Sem β} {g : α → β} : ∀ (l : List α), (∀ x ∈ l, ∀ w, (f x).run P w = .ok (g x) w) → ∀ w, (l.mapM f).run P w = .ok (l.map g) w
 | [], _, w => by simp
 | x :: l, h, w => by
  have ih := run_mapM l (fun x hx => h x (.tail _ hx)) w
  simp [List.mapM_cons, h x (.head _) w, ih]
theorem foldl_put (off : Nat) : ∀ (l : List Value) (k : Nat) (cs : Array Value), off + k + l.length ≤ cs.size →
  ((l.zipIdx k).foldl (fun (cs : Array Value) (p : Value × Nat) => cs.setIfInBounds (off + p.2) p.1) cs).toList = cs.toList.take (off + k) ++ l ++ cs.toList.drop (off + k + l.length)
 | [], k, cs, h => by simp
 | v :: l, k, cs, h => by
  have h' : off + (k + 1) + l.length ≤ (cs.setIfInBounds (off + k) v).size := by simp at h ⊢; omega
  have ih := foldl_put off l (k + 1) (cs.setIfInBounds (off + k) v) h'
  rw [List.zipIdx_cons, List.foldl_cons, ih]
  have := list_seg_step cs.toList (off + k) v l (by simp at h ⊢; omega)
  simpa [Array.toList_setIfInBounds, Nat.add_assoc] using this
theorem fold_put (off : Nat) (v : Value) (cs : Array Value) (h : off + v.cells.size ≤ cs.size) :
  (v.cells.zipIdx.foldl (fun (cs : Array Value) (p : Value × Nat) => cs.setIfInBounds (off + p.2) p.1) cs).toList = cs.toList.take off ++ (v.cells.toList ++ cs.toList.drop (off + v.cells.toList.length)) := by
 have := foldl_put off v.cells.toList 0 cs (by simpa using h)
 rw [← Array.foldl_toList, Array.toList_zipIdx, this]
 simp
end
section
variable {N PO : Nat → Prop} {w0 : Base} {w w' : World} {env : Env} {rows : Rows} {ce : Nat → Value} {Φ : Nat → Loc}
variable {P : Program} {C : FuncId → List PA → CRes → Prop} {d : Bool} {rs rr : List Nat}
section
variable {A : Nat → Prop} {H : AV → Value → Prop}
theorem cells_rep (hH : ∀ x v, H x v → v.oneCell' = true) {x : AV} {v : Value} (h : Rep w A H x v) (hx : partsOK.okPart x = true) : RepL w A H (cellsOf x) v.cells.toList ∧ ∀ u ∈ v.cells.toList, u.oneCell' = true := by
 by_cases ha : ∃ cs, x = .agg cs
 ·obtain ⟨cs, rfl⟩ := ha
  obtain ⟨vs, rfl, h1, h2⟩ := h
  exact ⟨h2, h1⟩
 ·have hs : sole x = true := by cases x <;> first | rfl | (simp [partsOK.okPart] at hx; done) | exact absurd ⟨_, rfl⟩ ha
  have h1 := h.one hH hs
  have hc : cellsOf x = [x] := by cases x <;> first | rfl | exact absurd ⟨_, rfl⟩ ha
  rw [cells_one h1, hc]
  exact ⟨⟨h, trivial⟩, fun u hu => by simp at hu; rw [hu]; exact h1⟩
theorem okPart_plain {x : AV} (h : plainAll x = true) : partsOK.okPart x = true := by
 cases x with
 | agg cs =>
  simp only [plainAll, partsOK.okPart, List.all_eq_true] at h ⊢
  intro c hc
  have := h c hc
  cases c <;> simp_all [plainCell]
 | _ => first | rfl | (simp [plainAll, plainCell] at h)
theorem zero_rep {t : TypeId} (hok : (tyOf P t).ok = true) : ∃ z, (∀ w, (zeroValue t).run P w = .ok z w) ∧ Rep w A H (tyOf P t).zero z ∧ RepL w A H (cellsOf (tyOf P t).zero) z.cells.toList ∧ (∀ u ∈ z.cells.toList, u.oneCell' = true) ∧ z.cells.size = (tyOf P t).size ∧
  Rep w A noH (tyOf P t).zero z := by
 obtain ⟨de, i, z, h1, h2, h3, h4, h5, h6, h7, h8, h9, h10⟩ := tyOf_ok hok
 have hr : Rep w A H (tyOf P t).zero z := by rw [h7]; exact Rep_ofValue
 have hn : Rep w A noH (tyOf P t).zero z := by rw [h7]; exact Rep_ofValue
 obtain ⟨g1, g2⟩ := cells_rep noH_one hn (by rw [h7]; exact okPart_plain h8)
 refine ⟨z, fun w => by simp [zeroValue, typeInfo, h2, h3], hr, g1.imp fun _ _ => Rep.ofNoH, g2, ?_, hn⟩
 have := g1.length
 rw [h7] at this
 rw [h5, ← h9, this]
 simp
theorem zd_rep {w : World} {A : Nat → Prop} {H : AV → Value → Prop} {t : TI} {z : Value} (h : Rep w A H t.zero z) : Rep w A H t.zd z := canonA_rep h
def PartsRep (w : World) (A : Nat → Prop) (H : AV → Value → Prop) : List (Nat × AV) → List (Nat × Value) → Prop
 | [], [] => True
 | (i, x) :: l, (k, v) :: r => (i = k ∧ Rep w A H x v) ∧ PartsRep w A H l r
 | _, _ => False
theorem fill_sound (hH : ∀ x v, H x v → v.oneCell' = true) {place place' : Nat → Option (Nat × Nat)} {plA : Nat → Nat} {size : Nat} (hpl : ∀ i, place i = place' i) (hA : ∀ i off n, place' i = some (off, n) → plA i = off) : ∀ {ps : List (Nat × AV)} {pv : List (Nat × Value)} {cs : List AV} {cells : Array Value},
  PartsRep w A H ps pv → partsOK place' size ps = true → RepL w A H cs cells.toList → cells.size = size → (∀ u ∈ cells.toList, u.oneCell' = true) →
  ∃ cells', Instr.fill place cells pv = some cells' ∧ cells'.size = size ∧ (∀ u ∈ cells'.toList, u.oneCell' = true) ∧ RepL w A H (setParts plA cs ps) cells'.toList
 | [], [], cs, cells, _, _, h, hs, h1 => ⟨cells, rfl, hs, h1, h⟩
 | (i, x) :: ps, (k, v) :: pv, cs, cells, hp, hok, h, hs, h1 => by
  obtain ⟨⟨rfl, hx⟩, hp⟩ := hp
  simp only [partsOK, Bool.and_eq_true] at hok
  obtain ⟨hi, hok⟩ := hok
  cases hpi : place' i with
  | none => rw [hpi] at hi; cases hi
  | some q =>
   obtain ⟨off, n⟩ := q
   rw [hpi] at hi
   simp only [Bool.and_eq_true, beq_iff_eq, decide_eq_true_eq] at hi
   obtain ⟨⟨hn, hoff⟩, hpart⟩ := hi
   obtain ⟨g1, g2⟩ := cells_rep hH hx hpart
   have hvn : v.cells.size = n := by rw [← hn, g1.length, Array.length_toList]
   have hput := fold_put off v cells (by rw [hvn, hs]; exact hoff)
   obtain ⟨cells', k1, k2, k3, k4⟩ := fill_sound hH hpl hA (cs := splice cs off (cellsOf x)) (cells := v.cells.zipIdx.foldl (fun (cs : Array Value) (p : Value × Nat) => cs.setIfInBounds (off + p.2) p.1) cells) hp hok
    (by rw [hput]; exact h.splicing g1 off) (by
     rw [← Array.length_toList, hput]
     simp
     omega) (by
     rw [hput]
     intro z hz
     rcases List.mem_append.1 hz with hz | hz
     ·exact h1 z (List.mem_of_mem_take hz)
     ·rcases List.mem_append.1 hz with hz | hz
      ·exact g2 z hz
      ·exact h1 z (List.mem_of_mem_drop hz))
   refine ⟨cells', ?_, k2, k3, ?_⟩
   ·simp only [Instr.fill, hpl, hpi]
    rw [if_neg (by simp [hvn, hs]; omega)]
    exact k1
   ·simp only [setParts, hA i off n hpi]
    exact k4
 | [], _ :: _, _, _, hp, _, _, _, _ => hp.elim
 | _ :: _, [], _, _, hp, _, _, _, _ => hp.elim
end
theorem buildA_sound {t : TypeId} {ps : List (Nat × AV)} {pv : List (Nat × Value)} (hp : PartsRep w (Av N rows Φ) (Hd rows Φ w) ps pv) {K : AV → List Nat → List Nat → Prop} (hh : (buildA P t ps).wp C d ⟨env, rows⟩ rs rr K) :
  ∃ av rs' rr' v, K av rs' rr' ∧ (Instr.build t pv.toArray).run P w = .ok v w ∧ Rep w (Av N rows Φ) (Hd rows Φ w) av v := by
 unfold buildA at hh
 split at hh
 ·rename_i hok
  obtain ⟨z, z1, z2, z3, z4, z5, _⟩ := zero_rep (w := w) (A := Av N rows Φ) (H := Hd rows Φ w) hok
  split at hh
  ·rename_i fs hk
   obtain ⟨gs, ht, rfl⟩ := under_struct hk
   obtain ⟨⟨hall, hpo⟩, hh⟩ := hh
   have hsz : ∀ f ∈ gs.toList, ∃ n, sizeOf P f.type = some n := by
    intro f hf
    have := List.all_eq_true.1 hall (f.offset, f.type) (List.mem_map.2 ⟨f, hf, rfl⟩)
    exact Option.isSome_iff_exists.1 this
   have hm : ∀ w, (gs.mapM fun f : Field => Prod.mk f.offset <$> Go.sizeOf f.type).run P w = .ok (gs.map fun f : Field => (f.offset, (sizeOf P f.type).getD 0)) w := by
    intro w
    have := run_mapM (P := P) (f := fun f : Field => Prod.mk f.offset <$> Go.sizeOf f.type) (g := fun f => (f.offset, (sizeOf P f.type).getD 0)) gs.toList (fun f hf w => by
     obtain ⟨n, hn⟩ := hsz f hf
     simp [run_sizeOf_some hn, hn]) w
    rw [Array.mapM_eq_mapM_toList]
    simp only [Sem.run_map, this, Result.andThen_ok]
    congr 1
    apply Array.ext'
    simp
   obtain ⟨cells', k1, k2, k3, k4⟩ := fill_sound (fun _ _ => Hd.one) (place := fun i => (gs.map fun f => (f.offset, (sizeOf P f.type).getD 0))[i]?) (plA := fun i => (((gs.toList.map fun f => (f.offset, f.type))[i]?).map (·.1)).getD 0) (fun i => by
    simp only [Array.getElem?_map, List.getElem?_map, Array.getElem?_toList]
    cases hg : gs[i]? with
    | none => rfl
    | some g =>
     obtain ⟨n, hn⟩ := hsz g (Array.mem_toList_iff.2 (Array.mem_of_getElem? hg))
     simp [hn]) (fun i off n he => by
    simp only [List.getElem?_map, Array.getElem?_toList] at he ⊢
    cases hg : gs[i]? with
    | none => rw [hg] at he; cases he
    | some g =>
     rw [hg] at he
     obtain ⟨n', hn'⟩ := hsz g (Array.mem_toList_iff.2 (Array.mem_of_getElem? hg))
     simp [hn'] at he
     simp [he.1]) hp hpo z3 z5 z4
   refine ⟨_, _, _, .agg cells', hh, ?_, _, rfl, k3, k4⟩
   simp only [Array.getElem?_map] at k1
   simp [Instr.build, z1, run_underlying ht, hm, k1]
  ·rename_i len e hk
   have ht := under_arr hk
   obtain ⟨⟨hsome, hpo⟩, hh⟩ := hh
   obtain ⟨n, hn⟩ := Option.isSome_iff_exists.1 hsome
   obtain ⟨cells', k1, k2, k3, k4⟩ := fill_sound (fun _ _ => Hd.one) (place := fun i => some (i * n, n)) (plA := fun i => i * (sizeOf P e).getD 0) (fun i => by rw [hn]; rfl) (fun i off m he => by
    rw [hn] at he ⊢
    simp at he
    exact he.1) hp hpo z3 z5 z4
   refine ⟨_, _, _, .agg cells', hh, ?_, _, rfl, k3, k4⟩
   simp [Instr.build, z1, run_underlying ht, run_sizeOf_some hn, k1]
  ·exact hh.elim
 ·exact hh.elim

def GivenParts (w : World) (N : Nat → Prop) (rows : Rows) (Φ : Nat → Loc) (wr : Wr) (ps : List (Nat × AV)) (pv : List (Nat × Value)) : Prop :=
 ∀ ρ, Frz rows ρ → (∀ r row, (r, row) ∈ wr → lget ρ r = some row) → (∀ r row, lget ρ r = some row → RowRel w N ρ Φ r row) → PartsRep w (Av N ρ Φ) noH ps pv
def PartsFit : List (Nat × AV) → List (Nat × Value) → Prop
 | [], [] => True
 | (_, x) :: l, (_, v) :: r => (v.cells.size = (cellsOf x).length ∧ ∀ u ∈ v.cells.toList, u.oneCell' = true) ∧ PartsFit l r
 | _, _ => False
theorem giveParts_sound (hrow : ∀ r row, lget rows r = some row → RowRel w N rows Φ r row) : ∀ {ps : List (Nat × AV)} {pv : List (Nat × Value)} {rs rr : List Nat} {slcs : List (Nat × Nat)} {K : List (Nat × AV) × Wr → List Nat → List Nat → Prop},
  PartsRep w (Av N rows Φ) (Hd rows Φ w) ps pv → (giveParts slcs ps).wp C d ⟨env, rows⟩ rs rr K →
  ∃ qs wr rs' rr', K (qs, wr) rs' rr' ∧ FrzW rows wr ∧ GivenParts w N rows Φ wr qs pv ∧ PartsFit qs pv
 | [], [], _, _, _, _, _, h => ⟨_, _, _, _, h, FrzW.nil, fun _ _ _ _ => trivial, trivial⟩
 | (i, x) :: ps, (k, v) :: pv, rs, rr, slcs, K, hp, h => by
  obtain ⟨⟨rfl, hx⟩, hp⟩ := hp
  rw [giveParts, RM.wp_bind] at h
  obtain ⟨y, wr, rs1, rr1, h, g2, g3, g4, g5, g6, g7⟩ := giveT_sound hrow hx h
  rw [RM.wp_bind] at h
  obtain ⟨qs, wr2, rs2, rr2, h, k2, k3, k4⟩ := giveParts_sound hrow hp h
  exact ⟨_, _, _, _, h, g2.append k2, fun ρ hρ hwr hr => ⟨⟨rfl, g7 ρ hρ (fun r row hm => hwr r row (List.mem_append.2 (.inl hm))) hr⟩, k3 ρ hρ (fun r row hm => hwr r row (List.mem_append.2 (.inr hm))) hr⟩, ⟨g6, g3⟩, k4⟩
 | [], _ :: _, _, _, _, _, hp, _ => hp.elim
 | _ :: _, [], _, _, _, _, hp, _ => hp.elim
theorem fill_elems {A : Nat → Prop} {ag : Bool} {es n : Nat} : ∀ {ps : List (Nat × AV)} {pv : List (Nat × Value)} {xs : List AV} {cells : Array Value}, PartsRep w A noH ps pv → PartsFit ps pv → elemsOK ag es n ps = true →
  Chunks w A noH xs es cells.toList → xs.length = n → cells.size = n * es →
  ∃ cells', Instr.fill (fun i => some (i * es, es)) cells pv = some cells' ∧ cells'.size = n * es ∧ Chunks w A noH (setElems xs ps) es cells'.toList ∧ (setElems xs ps).length = n
 | [], [], xs, cells, _, _, _, h, hl, hs => ⟨cells, rfl, hs, h, hl⟩
 | (i, x) :: ps, (k, v) :: pv, xs, cells, hp, hf, hok, h, hl, hs => by
  obtain ⟨⟨rfl, hx⟩, hp⟩ := hp
  obtain ⟨⟨f1, f2⟩, hf⟩ := hf
  simp only [elemsOK, Bool.and_eq_true, beq_iff_eq, decide_eq_true_eq] at hok
  obtain ⟨⟨⟨o1, o2⟩, o3⟩, o4⟩ := hok
  have hvs : v.cells.size = es := by rw [f1, o1]
  have hle : i * es + es ≤ n * es := by rw [← Nat.succ_mul]; exact Nat.mul_le_mul_right _ o2
  have hput := fold_put (i * es) v cells (by rw [hvs, hs]; exact hle)
  have hset := h.set (i := i) (by omega) hvs f2 hx
  have hvl : v.cells.toList.length = es := by simpa using hvs
  rw [hvl] at hput
  obtain ⟨cells', k1, k2, k3, k4⟩ := fill_elems (xs := xs.set i x) (cells := v.cells.zipIdx.foldl (fun (cs : Array Value) (p : Value × Nat) => cs.setIfInBounds (i * es + p.2) p.1) cells) hp hf o4
   (by rw [hput]; exact hset) (by simpa using hl) (by
    rw [← Array.length_toList, hput]
    simp [hvs]
    omega)
  refine ⟨cells', ?_, k2, k3, k4⟩
  simp only [Instr.fill]
  rw [if_neg (by simp [hvs, hs]; omega)]
  exact k1
 | [], _ :: _, _, _, hp, _, _, _, _, _ => hp.elim
 | _ :: _, [], _, _, hp, _, _, _, _, _ => hp.elim
theorem hr0 : Array.range 0 = #[] := rfl
theorem zeros_eq (z : Array Value) (n size : Nat) (hz : z.size = size) : (Array.range (n * size)).map (fun i => z[i % z.size]!) = Builtin.zeroCells z n := by
 subst hz; rfl
theorem buildSliceA_sound (h : Core N PO w0 ⟨env, rows⟩ ce w Φ) {dst n : Nat} {t : TypeId} {ps : List (Nat × AV)} {pv : List (Nat × Value)} (hp : PartsRep w (Av N rows Φ) (Hd rows Φ w) ps pv) {K : Eff → List Nat → List Nat → Prop} (hh : (buildSliceA P dst t n ps).wp C d ⟨env, rows⟩ rs rr K) :
  ∃ ef rs' rr' v w', K ef rs' rr' ∧ (Instr.buildSlice t n pv.toArray).run P w = .ok v w' ∧ Fine N PO w0 env ce (putRows rows ef.rows) w' ef.val v := by
 unfold buildSliceA at hh
 split at hh
 ·rename_i e hk
  have ht := under_slice hk
  split at hh
  ·rename_i hok
   rw [RM.wp_bind] at hh
   obtain ⟨qs, wr, rs', rr', hh, g2, g3, g4⟩ := giveParts_sound h.rows hp hh
   obtain ⟨⟨c1, c2⟩, hh⟩ := hh
   simp only [mk, RM.wp] at hh
   have hfz := g2.put (Frz.refl rows)
   have hcore := hfz.core h
   have hrep := g3 _ hfz (fun r row hm => g2.get (.inl hm)) hcore.rows
   obtain ⟨z, z1, z2, z3, z4, z5, z6⟩ := zero_rep (w := w) (A := Av N (putRows rows wr) Φ) (H := noH) hok
   have hch := Chunks.zeros z5 z4 (zd_rep z6) n
   obtain ⟨cells', k1, k2, k3, k4⟩ := fill_elems hrep g4 c2 hch (by simp) (by rw [size_zeroCells, z5])
   have hp' := pushed_alloc w (.cells cells' e)
   obtain ⟨q1, q2⟩ := hcore.fresh dst (freshGen (lget rows dst)) false (es := (tyOf P e).size) (xs := setElems (List.replicate n (tyOf P e).zd) qs) (by
    refine ⟨fun h0 => ?_, fun row0 h0 => ?_⟩
    ·unfold freshGen; split <;> omega
    ·obtain ⟨w', p1, p2, _⟩ := hfz.back h0
     rw [p1]
     show row0.gen < w'.gen + 1
     rw [p2]; exact Nat.lt_succ_self _) hp' (by simpa using k3)
   refine ⟨_, _, _, .slice (some ⟨w.heap.size, 0, none⟩) n n, w.alloc (.cells cells' e), hh, ?_, ?_⟩
   ·have hle : ¬ (16777216 < n * (tyOf P e).size) := by have := c1; omega
    by_cases h0 : n * (tyOf P e).size = 0
    ·have e0 : Builtin.zeroCells z.cells n = #[] := by
      apply Array.eq_empty_of_size_eq_zero
      rw [size_zeroCells, z5, h0]
     rw [e0] at k1
     simp [Instr.buildSlice, run_underlying ht, sizeOf_ok hok, h0, k1, newRow, hr0]
    ·have e0 := zeros_eq z.cells n (tyOf P e).size z5
     simp [Instr.buildSlice, run_underlying ht, sizeOf_ok hok, hle, h0, z1, newRow]
     rw [show (Array.map (fun x => z.cells[x % z.cells.size]!) (Array.range (n * (tyOf P e).size))) = Builtin.zeroCells z.cells n from e0, k1]
     simp [newRow]
   ·rw [putRows_append]
    exact ⟨_, q1, Rep_fresh hp' (Nat.le_refl _) (by rw [k2]; exact Nat.le_refl _)⟩
  ·exact hh.elim
 ·exact hh.elim
theorem makeSliceA_sound (h : Core N PO w0 ⟨env, rows⟩ ce w Φ) {dst : Nat} {t : TypeId} {l c : Int} {kl kc : IntKind} {K : Eff → List Nat → List Nat → Prop} (hh : (makeSliceA P dst t l c).wp C d ⟨env, rows⟩ rs rr K) :
  ∃ ef rs' rr' v w', K ef rs' rr' ∧ (Instr.makeSlice t (.int kl l) (.int kc c)).run P w = .ok v w' ∧ Fine N PO w0 env ce (putRows rows ef.rows) w' ef.val v := by
 unfold makeSliceA at hh
 split at hh
 ·rename_i e hk
  have ht := under_slice hk
  split at hh
  ·rename_i hok
   obtain ⟨⟨c1, c2, c3, c4, c5⟩, hh⟩ := hh
   simp only [mk, RM.wp] at hh
   obtain ⟨de, i, z', h1, h2, h3, h4, h5, h6, h7, h8, h9, h10⟩ := tyOf_ok hok
   obtain ⟨z, z1, z2, z3, z4, z5, z6⟩ := zero_rep (w := w) (A := Av N rows Φ) (H := noH) hok
   have wl : IntKind.i64.wrap l = l := by rw [IntKind.wrap_i64]; omega
   have wc : IntKind.i64.wrap c = c := by rw [IntKind.wrap_i64]; omega
   have hb : ¬ (c < 0) := by omega
   have hlc : ¬ (l < 0) := by omega
   have hlc' : ¬ (l > c) := by omega
   have hbytes : ¬ (281474976710656 < (i.bytes : Int) * c) := by
    have : ((c.toNat * i.bytes : Nat) : Int) ≤ 140737488355328 := by rw [← h6]; exact Int.ofNat_le.2 c4
    have hcn : (c.toNat : Int) = c := Int.toNat_of_nonneg (by omega)
    rw [Int.natCast_mul, hcn, Int.mul_comm] at this
    omega
   have hp' := pushed_alloc w (.cells (Builtin.zeroCells z.cells c.toNat) e)
   have hch := (Chunks.zeros z5 z4 (zd_rep z6) c.toNat).take l.toNat
   rw [List.take_replicate, Nat.min_eq_left (by omega)] at hch
   obtain ⟨q1, q2⟩ := h.fresh dst (freshGen (lget rows dst)) false (es := (tyOf P e).size) (xs := List.replicate l.toNat (tyOf P e).zd) fresh_gen hp' (by simpa using hch)
   refine ⟨_, _, _, .slice (some ⟨w.heap.size, 0, none⟩) l.toNat c.toNat, w.alloc (.cells (Builtin.zeroCells z.cells c.toNat) e), hh, ?_, ?_⟩
   ·have hinfo : (typeInfo e).run P w = .ok i w := by simp [typeInfo, h2]
    by_cases h0 : c.toNat * (tyOf P e).size = 0
    ·have e0 : Builtin.zeroCells z.cells c.toNat = #[] := by
      apply Array.eq_empty_of_size_eq_zero
      rw [size_zeroCells, z5, h0]
     simp [Instr.makeSlice, run_underlying ht, asInt, asIntOf, hinfo, wl, wc, hb, hlc, hlc', hbytes, sizeOf_ok hok, h0, newRow, e0, hr0]
    ·have e0 := zeros_eq z.cells c.toNat (tyOf P e).size z5
     simp [Instr.makeSlice, run_underlying ht, asInt, asIntOf, hinfo, wl, wc, hb, hlc, hlc', hbytes, sizeOf_ok hok, h0, newRow, z1]
     rw [show (Array.map (fun x => z.cells[x % z.cells.size]!) (Array.range (c.toNat * (tyOf P e).size))) = Builtin.zeroCells z.cells c.toNat from e0]
   ·exact ⟨_, q1, Rep_fresh hp' (by omega) (by rw [size_zeroCells, z5]; exact Nat.le_refl _)⟩
  ·exact hh.elim
 ·exact hh.elim
end
end Go.AL
end
section
namespace Go.AL
section
variable {N PO : Nat → Prop} {w0 : Base} {w w' : World} {env : Env} {rows : Rows} {ce : Nat → Value} {Φ : Nat → Loc}
variable {P : Program} {C : FuncId → List PA → CRes → Prop} {d : Bool} {rs rr : List Nat}
section
variable {A : Nat → Prop} {H : AV → Value → Prop}
theorem key_int {kd : IntKind} {x : AV} {v : Value} (h : keyOK (.int kd) x = true) (hr : Rep w A H x v) : ∃ n, x = .sc (.int kd n) ∧ v = .int kd n := by
 unfold keyOK intOf1 at h
 simp only at h
 split at h
 ·rename_i k' n
  simp at h
  subst h
  exact ⟨n, rfl, hr.1⟩
 ·cases h
theorem key_str {x : AV} {v : Value} (h : keyOK .str x = true) (hr : Rep w A H x v) : ∃ s, x = .sc (.string s) ∧ v = .string s := by
 unfold keyOK at h
 split at h <;> first | cases h | skip
 ·rename_i e; cases e
 ·rename_i s _; exact ⟨s, rfl, hr.1⟩
 ·rename_i e; cases e
theorem key_arr {n : Nat} {kd : IntKind} {x : AV} {v : Value} (h : keyOK (.arr n kd) x = true) (hr : Rep w A H x v) : ∃ as : List Int, as.length = n ∧ x = .agg (as.map fun n => AV.sc (.int kd n)) ∧ v = .agg (as.map fun n => Value.int kd n).toArray := by
 cases x with
 | agg cs =>
  simp only [keyOK, Bool.and_eq_true, beq_iff_eq] at h
  obtain ⟨as, rfl⟩ := ints_of h.2
  obtain ⟨vs, rfl, h1, h2⟩ := hr
  refine ⟨as, by simpa using h.1, rfl, ?_⟩
  congr 1
  apply Array.ext'
  rw [RepL_ints h2]
 | _ => simp [keyOK] at h
def FindSpec (w : World) (A : Nat → Prop) (k : AV) (l : List (AV × AV)) (i : Nat) : Option (Nat × Value) → Prop
 | none => mget k l = none ∧ ∀ v, mset k v l = l ++ [(k, v)]
 | some (j, u) => ∃ m a x, j = i + m ∧ l[m]? = some (a, x) ∧ keyEq k a = true ∧ mget k l = some x ∧ Rep w A noH x u ∧ ∀ v, mset k v l = l.set m (a, v)
theorem FindSpec.hit {k a x : AV} {u : Value} {l : List (AV × AV)} {i : Nat} (h : keyEq k a = true) (hx : Rep w A noH x u) : FindSpec w A k ((a, x) :: l) i (some (i, u)) :=
 ⟨0, a, x, rfl, rfl, h, by simp [mget, h], hx, fun v => by simp [mset, h]⟩
theorem FindSpec.miss {k a x : AV} {l : List (AV × AV)} {i : Nat} {r : Option (Nat × Value)} (h : keyEq k a = false) (hr : FindSpec w A k l (i + 1) r) : FindSpec w A k ((a, x) :: l) i r := by
 cases r with
 | none => exact ⟨by simp [mget, h, hr.1], fun v => by simp [mset, h, hr.2]⟩
 | some q =>
  obtain ⟨j, u⟩ := q
  obtain ⟨m, a', x', h1, h2, h3, h4, h5, h6⟩ := hr
  exact ⟨m + 1, a', x', by omega, by simpa using h2, h3, by simp [mget, h, h4], h5, fun v => by simp [mset, h, h6]⟩
theorem findNow_rel {kk : KK} {td : TypeDesc} {k : AV} {kv : Value} (hs : ∀ a v, keyOK kk a = true → Rep w A noH a v → Instr.sameNow td kv v = some (keyEq k a)) : ∀ {l : List (AV × AV)} {es : List MapEntry} (i : Nat), EntsRel w A kk l es →
  ∃ r, Instr.findNow td kv es i = some r ∧ FindSpec w A k l i r
 | [], [], i, _ => ⟨none, rfl, rfl, fun _ => rfl⟩
 | (a, x) :: l, e :: es, i, h => by
  have hh := hs a e.key h.1.1 h.1.2.1
  cases hk : keyEq k a with
  | true => exact ⟨_, by simp [Instr.findNow, hh, hk], FindSpec.hit hk h.1.2.2⟩
  | false =>
   obtain ⟨r, h1, h2⟩ := findNow_rel hs (i + 1) h.2
   exact ⟨r, by simp [Instr.findNow, hh, hk, h1], h2.miss hk⟩
 | [], _ :: _, _, h => h.elim
 | _ :: _, [], _, h => h.elim
theorem findAsking_rel {kk : KK} {kt : TypeId} {k : AV} {kv : Value} (hs : ∀ a v, keyOK kk a = true → Rep w A noH a v → ∀ w', (Op.equal kt kv v).run P w' = .ok (keyEq k a) w') : ∀ {l : List (AV × AV)} {es : List MapEntry} (i : Nat), EntsRel w A kk l es →
  ∃ r, (∀ w', (Instr.findAsking kt kv es i).run P w' = .ok r w') ∧ FindSpec w A k l i r
 | [], [], i, _ => ⟨none, fun w' => rfl, rfl, fun _ => rfl⟩
 | (a, x) :: l, e :: es, i, h => by
  have hh := hs a e.key h.1.1 h.1.2.1
  cases hk : keyEq k a with
  | true => exact ⟨_, fun w' => by simp [Instr.findAsking, hh, hk], FindSpec.hit hk h.1.2.2⟩
  | false =>
   obtain ⟨r, h1, h2⟩ := findAsking_rel hs (i + 1) h.2
   exact ⟨r, fun w' => by simp [Instr.findAsking, hh, hk, h1], h2.miss hk⟩
 | [], _ :: _, _, h => h.elim
 | _ :: _, [], _, h => h.elim
theorem kk_int {kt : TypeId} {kd : IntKind} (h : kkOf P kt = .int kd) : P.underlying kt = some (.int kd) := by
 unfold kkOf at h
 cases hk : (tyOf P kt).k with
 | int k' => simp [hk] at h; subst h; exact under_int hk
 | arr m e =>
  simp only [hk] at h
  cases hke : (tyOf P e).k <;> simp only [hke] at h <;> try cases h
  split at h <;> cases h
 | _ => simp [hk] at h
theorem kk_str {kt : TypeId} (h : kkOf P kt = .str) : P.underlying kt = some .string := by
 unfold kkOf at h
 cases hk : (tyOf P kt).k with
 | str => exact under_str hk
 | arr m e =>
  simp only [hk] at h
  cases hke : (tyOf P e).k <;> simp only [hke] at h <;> try cases h
  split at h <;> cases h
 | _ => simp [hk] at h
theorem run_checkKey_arr {kt : TypeId} {n : Nat} {kd : IntKind} (h : kkOf P kt = .arr n kd) (as : List Int) (hn : as.length = n) (em : Bool) (m : Nat) (w : World) :
  (Instr.checkKey em (m + 2) kt (.agg (as.map fun n => Value.int kd n).toArray)).run P w = .ok () w := by
 obtain ⟨e, i, h1, h2, h3, h4⟩ := kk_arr h
 rw [Instr.checkKey]
 simp only [Sem.run_bind, run_underlying h1, Result.andThen_ok]
 simp only [Std.Legacy.Range.forIn_eq_forIn_range', Std.Legacy.Range.size, Nat.sub_zero, Nat.add_one_sub_one, Nat.div_one]
 have hs : (Go.sizeOf e).run P w = .ok 1 w := by
  have : i.size = 1 := by simpa [Program.cellsOf, h3] using h4
  simp [Go.sizeOf, typeInfo, h3, this]
 have hp : P.plainKey e = true := by simp [Program.plainKey, h2]
 have each : ∀ j ∈ List.range' 0 n, j < as.length := by
  intro j hj
  rw [List.mem_range'] at hj
  obtain ⟨q, h1, rfl⟩ := hj
  omega
 generalize List.range' 0 n = is at each
 induction is with
 | nil => simp
 | cons j is ih =>
  have hj := each j (.head _)
  have p1 := run_part_plain (P := P) w hp (xs := (as.map fun n => Value.int kd n).toArray) (off := j * 1) (v := .int kd as[j]) (by simp [hj])
  have p2 : (Instr.checkKey em (m + 1) e (.int kd as[j])).run P w = .ok () w := by
   rw [Instr.checkKey]
   simp [run_underlying h2]
  simp only [List.forIn_cons, Sem.run_bind, hs, Result.andThen_ok, p1, p2, Sem.run_pure]
  exact ih (fun y hy => each y (.tail _ hy))
theorem find_sound {kt : TypeId} {k : AV} {kv : Value} (hk : keyOK (kkOf P kt) k = true) (hr : Rep w A H k kv) {l : List (AV × AV)} {es : List MapEntry} (he : EntsRel w A (kkOf P kt) l es) :
  (∀ em w', (Instr.checkKey em 10000 kt kv).run P w' = .ok () w') ∧ ∃ r, (∀ w', (Instr.findKey kt kv es).run P w' = .ok r w') ∧ FindSpec w A k l 0 r := by
 cases hkk : kkOf P kt with
 | int kd =>
  rw [hkk] at hk he
  have ht := kk_int hkk
  obtain ⟨n, rfl, rfl⟩ := key_int hk hr
  obtain ⟨r, h1, h2⟩ := findNow_rel (td := .int kd) (k := .sc (.int kd n)) (kv := .int kd n) (fun a v ha hv => by
   obtain ⟨m, rfl, rfl⟩ := key_int ha hv
   simp [Instr.sameNow, keyEq, keyEq1]) 0 he
  exact ⟨fun em w' => MapKept.run_checkKey (n := 9999) (k := .int kd n) ht (by simp [MapKept.IsKey]) em, r, fun w' => MapKept.run_findKey ht h1, h2⟩
 | str =>
  rw [hkk] at hk he
  have ht := kk_str hkk
  obtain ⟨s, rfl, rfl⟩ := key_str hk hr
  obtain ⟨r, h1, h2⟩ := findNow_rel (td := .string) (k := .sc (.string s)) (kv := .string s) (fun a v ha hv => by
   obtain ⟨m, rfl, rfl⟩ := key_str ha hv
   simp [Instr.sameNow, keyEq, keyEq1]) 0 he
  exact ⟨fun em w' => MapKept.run_checkKey (n := 9999) (k := .string s) ht (by simp [MapKept.IsKey]) em, r, fun w' => MapKept.run_findKey ht h1, h2⟩
 | arr n kd =>
  rw [hkk] at hk he
  obtain ⟨e, i, h1, h2, h3, h4⟩ := kk_arr hkk
  obtain ⟨as, hn, rfl, rfl⟩ := key_arr hk hr
  refine ⟨fun em w' => run_checkKey_arr hkk as hn em 9998 w', ?_⟩
  obtain ⟨r, g1, g2⟩ := findAsking_rel (P := P) (kt := kt) (k := .agg (as.map fun n => AV.sc (.int kd n))) (kv := .agg (as.map fun n => Value.int kd n).toArray) (fun a v ha hv w' => by
   obtain ⟨bs, hb, rfl, rfl⟩ := key_arr ha hv
   show _ = Result.ok (keysEq _ _) w'
   rw [keysEq_ints]
   exact run_equal_ints hkk as bs hn hb 9998 w') 0 he
  cases es with
  | nil =>
   refine ⟨r, fun w' => ?_, g2⟩
   have := g1 w'
   simp [Instr.findAsking] at this
   simp [Instr.findKey, run_underlying h1, Instr.findNow, this]
  | cons e0 es =>
   refine ⟨r, fun w' => ?_, g2⟩
   simp [Instr.findKey, run_underlying h1, Instr.findNow, Instr.sameNow, g1]
 | other => rw [hkk] at hk; cases k <;> simp [keyOK] at hk
theorem key_same {kk : KK} {k a : AV} {kv v : Value} (hk : keyOK kk k = true) (hr : Rep w A H k kv) (ha : keyOK kk a = true) (hv : Rep w A noH a v) (he : keyEq k a = true) : v = kv ∧ Instr.sameBits 10000 v kv = true := by
 cases kk with
 | int kd =>
  obtain ⟨n, rfl, rfl⟩ := key_int hk hr
  obtain ⟨m, rfl, rfl⟩ := key_int ha hv
  simp [keyEq, keyEq1] at he
  subst he
  exact ⟨rfl, by simp [Instr.sameBits]⟩
 | str =>
  obtain ⟨s, rfl, rfl⟩ := key_str hk hr
  obtain ⟨t, rfl, rfl⟩ := key_str ha hv
  simp only [keyEq, keyEq1] at he
  rw [MapKept.bytes_beq] at he
  subst he
  exact ⟨rfl, by simp only [Instr.sameBits]; rw [MapKept.bytes_beq]⟩
 | arr n kd =>
  obtain ⟨as, hn, rfl, rfl⟩ := key_arr hk hr
  obtain ⟨bs, hb, rfl, rfl⟩ := key_arr ha hv
  have he : keysEq _ _ = true := he
  rw [keysEq_ints] at he
  have : as = bs := by simpa using he
  subst this
  refine ⟨rfl, ?_⟩
  show Instr.sameBits (9999 + 1) _ _ = true
  simp only [Instr.sameBits, beq_self_eq_true, Bool.true_and, List.all_eq_true]
  intro p hp
  obtain ⟨i, hi, e⟩ := List.getElem_of_mem hp
  rw [List.getElem_zip] at e
  rw [← e]
  simp [Instr.sameBits]
 | other => cases k <;> simp [keyOK] at hk
end
theorem EntsRel.length {A : Nat → Prop} {kk : KK} : ∀ {l : List (AV × AV)} {es : List MapEntry}, EntsRel w A kk l es → l.length = es.length
 | [], [], _ => rfl
 | _ :: _, _ :: _, h => by simp [EntsRel.length h.2]
 | [], _ :: _, h => h.elim
 | _ :: _, [], h => h.elim
theorem EntsRel.at {A : Nat → Prop} {kk : KK} : ∀ {l : List (AV × AV)} {es : List MapEntry} (h : EntsRel w A kk l es) (i : Nat) (p : AV × AV), l[i]? = some p → ∃ e, es[i]? = some e ∧ keyOK kk p.1 = true ∧ Rep w A noH p.1 e.key ∧ Rep w A noH p.2 e.val
 | (k, x) :: l, e :: es, h, 0, p, hp => by
  obtain rfl := Option.some.inj hp
  exact ⟨e, rfl, h.1⟩
 | _ :: _, _ :: _, h, i + 1, p, hp => EntsRel.at h.2 i p hp
 | [], [], _, _, _, hp => by simp at hp
 | [], _ :: _, h, _, _, _ => h.elim
 | _ :: _, [], h, _, _, _ => h.elim
theorem EntsRel.snoc {A : Nat → Prop} {kk : KK} {k x : AV} {e : MapEntry} (hk : keyOK kk k = true) (h1 : Rep w A noH k e.key) (h2 : Rep w A noH x e.val) : ∀ {l : List (AV × AV)} {es : List MapEntry}, EntsRel w A kk l es → EntsRel w A kk (l ++ [(k, x)]) (es ++ [e])
 | [], [], _ => ⟨⟨hk, h1, h2⟩, trivial⟩
 | _ :: _, _ :: _, h => ⟨h.1, EntsRel.snoc hk h1 h2 h.2⟩
 | [], _ :: _, h => h.elim
 | _ :: _, [], h => h.elim
theorem EntsRel.set {A : Nat → Prop} {kk : KK} {k x : AV} {f : MapEntry → MapEntry} : ∀ {l : List (AV × AV)} {es : List MapEntry} (i : Nat), EntsRel w A kk l es → (∀ e, es[i]? = some e → keyOK kk k = true ∧ Rep w A noH k (f e).key ∧ Rep w A noH x (f e).val) → EntsRel w A kk (l.set i (k, x)) (es.modify i f)
 | [], [], _, _, _ => by simp [EntsRel]
 | (k0, x0) :: l, e :: es, 0, h, hf => by
  simp only [List.set_cons_zero, List.modify_zero_cons]
  exact ⟨hf e rfl, h.2⟩
 | (k0, x0) :: l, e :: es, i + 1, h, hf => by
  simp only [List.set_cons_succ, List.modify_succ_cons]
  exact ⟨h.1, EntsRel.set i h.2 fun e he => hf e (by simpa using he)⟩
 | [], _ :: _, _, h, _ => h.elim
 | _ :: _, [], _, h, _ => h.elim
theorem hm_place (hrow : ∀ r row, lget rows r = some row → RowRel w N rows Φ r row) {p : Pl} {v : Value} (hv : Hd rows Φ w (.hm p) v) {row : Row} (h0 : lget rows p.r = some row) (hg : row.gen = p.g) {kk : KK} {ents : List (AV × AV)} (hb : row.body = .map kk ents) :
  ∃ b es clk, Φ p.r = some (b, 0) ∧ v = .map (some b) ∧ w.heap[b]? = some (.map es clk) ∧ row.own = true ∧ row.box = false ∧ EntsRel w (Av N rows Φ) kk ents es.toList := by
 obtain ⟨m, rfl, row', h0', hg', hh⟩ := hv
 rw [h0] at h0'
 obtain rfl := Option.some.inj h0'
 obtain ⟨b, ob, h1, rfl⟩ := hh hg
 have hrr := hrow p.r row h0
 unfold RowRel at hrr
 simp only [hb] at hrr
 obtain ⟨b', es, clk, k1, k2, k3, k4, k5⟩ := hrr
 rw [h1] at k1
 obtain ⟨rfl, rfl⟩ := by simpa using k1
 exact ⟨b, es, clk, h1, rfl, k2, k3, k4, k5⟩
theorem lookupA_sound (h : Core N PO w0 ⟨env, rows⟩ ce w Φ) {t : TypeId} {m k : AV} {mv kv : Value} (hm : Rep w (Av N rows Φ) (Hd rows Φ w) m mv) (hkr : Rep w (Av N rows Φ) (Hd rows Φ w) k kv) {ok : Bool} {K : AV → List Nat → List Nat → Prop}
  (hh : (lookupA P t m k ok).wp C d ⟨env, rows⟩ rs rr K) :
  ∃ av rs' rr' v, K av rs' rr' ∧ (Instr.lookup t mv kv ok).run P w = .ok v w ∧ Rep w (Av N rows Φ) (Hd rows Φ w) av v := by
 unfold lookupA at hh
 split at hh
 ·rename_i kt e p hk
  have ht := under_map hk
  split at hh
  ·rename_i hok
   obtain ⟨ma, e0, row, h0, hg, hhd⟩ := id hm
   simp only [rd, RM.wp, h0] at hh
   split at hh
   ·rename_i hgen
    split at hh
    ·rename_i kk ents hb
     obtain ⟨⟨k1, k2⟩, hh⟩ := hh
     subst k2
     obtain ⟨b, es, clk, q1, rfl, q2, q3, q4, q5⟩ := hm_place h.rows hm h0 hgen hb
     obtain ⟨g1, r, g2, g3⟩ := find_sound (P := P) (kt := kt) k1 hkr q5
     obtain ⟨z, z1, z2, _⟩ := zero_rep (w := w) (A := Av N rows Φ) (H := Hd rows Φ w) hok
     cases r with
     | none =>
      obtain ⟨g3, _⟩ := g3
      rw [g3] at hh
      cases ok with
      | true => exact ⟨_, _, _, .tuple #[z, .bool false], hh, by simp [Instr.lookup, run_underlying ht, MapKept.run_getObj_map q2, g1, g2, z1], _, rfl, zd_rep z2, Rep_bool, trivial⟩
      | false => exact ⟨_, _, _, z, hh, by simp [Instr.lookup, run_underlying ht, MapKept.run_getObj_map q2, g1, g2, z1], zd_rep z2⟩
     | some q =>
      obtain ⟨j, u⟩ := q
      obtain ⟨mm, a, x, f1, f2, f3, f4, f5, f6⟩ := g3
      rw [f4] at hh
      cases ok with
      | true => exact ⟨_, _, _, .tuple #[u, .bool true], hh, by simp [Instr.lookup, run_underlying ht, MapKept.run_getObj_map q2, g1, g2], _, rfl, f5.ofNoH, Rep_bool, trivial⟩
      | false => exact ⟨_, _, _, u, hh, by simp [Instr.lookup, run_underlying ht, MapKept.run_getObj_map q2, g1, g2], f5.ofNoH⟩
    ·exact hh.elim
   ·exact hh.elim
  ·exact hh.elim
 ·exact hh.elim
theorem mapUpdateA_sound (h : Core N PO w0 ⟨env, rows⟩ ce w Φ) {t : TypeId} {m k x : AV} {mv kv xv : Value} (hm : Rep w (Av N rows Φ) (Hd rows Φ w) m mv) (hkr : Rep w (Av N rows Φ) (Hd rows Φ w) k kv) (hx : Rep w (Av N rows Φ) (Hd rows Φ w) x xv) {K : Eff → List Nat → List Nat → Prop}
  (hh : (mapUpdateA P t m k x).wp C d ⟨env, rows⟩ rs rr K) :
  ∃ ef rs' rr' w', K ef rs' rr' ∧ (Instr.mapUpdate t mv kv xv).run P w = .ok () w' ∧ ∀ u, Fine N PO w0 env ce (putRows rows ef.rows) w' ef.val u := by
 unfold mapUpdateA at hh
 split at hh
 ·rename_i kt e p hk
  have ht := under_map hk
  obtain ⟨ma, e0, row, h0, hg, hhd⟩ := id hm
  simp only [rd, RM.wp, h0] at hh
  split at hh
  ·rename_i hgen
   split at hh
   ·rename_i kk ents hb
    split at hh
    ·rename_i hown
     rw [RM.wp_bind] at hh
     obtain ⟨b, es, clk, q1, rfl, q2, q3, q4, q5⟩ := hm_place h.rows hm h0 hgen hb
     obtain ⟨y, wr, rs', rr', hh, g2, g3, g4, g5, g6, g7⟩ := giveT_sound h.rows hx hh
     obtain ⟨⟨k1, k2, k3⟩, hh⟩ := hh
     subst k2
     have hfz := g2.put (Frz.refl rows)
     have hcore := hfz.core h
     have hrep := g7 _ hfz (fun r row hm => g2.get (.inl hm)) hcore.rows
     have s1 : lget (putRows rows wr) p.r = some row := (notIn_get k3).trans h0
     have hrow' := hcore.rows p.r row s1
     unfold RowRel at hrow'
     simp only [hb] at hrow'
     obtain ⟨b', es', clk', u1, u2, u3, u4, u5⟩ := hrow'
     rw [q1] at u1
     obtain rfl : b = b' := by simpa using u1
     rw [q2] at u2
     obtain ⟨rfl, rfl⟩ := by simpa using u2
     have hkr' : Rep w (Av N (putRows rows wr) Φ) (Hd (putRows rows wr) Φ w) k kv := hfz.rep hkr
     obtain ⟨f1, r, f2, f3⟩ := find_sound (P := P) (kt := kt) k1 hkr' u5
     have hkn : Rep w (Av N (putRows rows wr) Φ) noH k kv := by
      cases hkk : kkOf P kt with
      | int kd => rw [hkk] at k1; obtain ⟨n, rfl, rfl⟩ := key_int k1 hkr'; exact Rep_int
      | str => rw [hkk] at k1; obtain ⟨n, rfl, rfl⟩ := key_str k1 hkr'; exact Rep_str
      | arr n kd =>
       rw [hkk] at k1
       obtain ⟨as, _, rfl, rfl⟩ := key_arr k1 hkr'
       obtain ⟨vs, e1, e2, e3⟩ := hkr'
       refine ⟨_, rfl, ?_, ?_⟩
       ·intro z hz
        obtain ⟨a, _, rfl⟩ := List.mem_map.1 hz
        rfl
       ·have : ∀ l : List Int, RepL w (Av N (putRows rows wr) Φ) noH (l.map fun n => AV.sc (.int kd n)) (l.map fun n => Value.int kd n) := by
         intro l
         induction l with
         | nil => trivial
         | cons a l ih => exact ⟨Rep_int, ih⟩
        exact this as
      | other => rw [hkk] at k1; cases k <;> simp [keyOK] at k1
     -- the new entries
     have fin : ∀ (es2 : Array MapEntry) (clk2 : Nat), EntsRel w (Av N (putRows rows wr) Φ) (kkOf P kt) (mset k y ents) es2.toList →
       ∀ u, Fine N PO w0 env ce (putRows rows (wr ++ [(p.r, { row with body := .map (kkOf P kt) (mset k y ents) })])) { w with heap := w.heap.setIfInBounds b (.map es2 clk2) } .junk u := by
      intro es2 clk2 hes u
      obtain ⟨hs1, hs2⟩ := MapKept.heap_set (o' := .map es2 clk2) q2
      have a1 : ∀ kb, kb < w.heap.size → (∀ row0 o, lget (St.rows ⟨env, putRows rows wr⟩) p.r = some row0 → row0.own = true → Φ p.r ≠ some (kb, o)) → ({ w with heap := w.heap.setIfInBounds b (.map es2 clk2) } : World).heap[kb]? = w.heap[kb]? := by
       intro kb _ hh
       exact hs2 kb fun e => hh row 0 s1 hown (by rw [e]; exact q1)
      have ag : Grows w { w with heap := w.heap.setIfInBounds b (.map es2 clk2) } := by
       intro kb c e hkb
       have : kb ≠ b := fun e' => by rw [e', q2] at hkb; cases hkb
       exact ⟨c, e, (hs2 kb this).trans hkb, Nat.le_refl _⟩
      have a2 : (lget (St.rows ⟨env, putRows rows wr⟩) p.r = none → row.gen ≠ 0) ∧ ∀ row0, lget (St.rows ⟨env, putRows rows wr⟩) p.r = some row0 → row0.gen < row.gen ∨ (row0.gen = row.gen ∧ Φ p.r = Φ p.r ∧ sameShape row0.body (.map (kkOf P kt) (mset k y ents)) ∧ row0.box = row.box ∧
       (row.own = true → row0.own = true)) := by
       refine ⟨fun e => (by have e : lget (putRows rows wr) p.r = none := e; rw [s1] at e; cases e), ?_⟩
       intro row0 h1
       have h1 : lget (putRows rows wr) p.r = some row0 := h1
       rw [s1] at h1
       obtain rfl := Option.some.inj h1
       exact .inr ⟨rfl, rfl, by rw [hb]; rfl, rfl, fun _ => hown⟩
      have a3 : row.own = true → ∀ b' o, Φ p.r = some (b', o) → (w.heap.size ≤ b' ∨ ∃ row0 o', lget (St.rows ⟨env, putRows rows wr⟩) p.r = some row0 ∧ row0.own = true ∧ Φ p.r = some (b', o')) :=
       fun _ b' o e' => .inr ⟨row, o, s1, hown, e'⟩
      have hsz : w.heap.size ≤ ({ w with heap := w.heap.setIfInBounds b (.map es2 clk2) } : World).heap.size := by simp
      have hdat := setRow_dat hcore p.r { row with body := .map (kkOf P kt) (mset k y ents) } (Φ p.r) { w with heap := w.heap.setIfInBounds b (.map es2 clk2) } rfl rfl rfl hsz a1 ag a2 a3
      have := Core.setRow hcore p.r { row with body := .map (kkOf P kt) (mset k y ents) } (Φ p.r) { w with heap := w.heap.setIfInBounds b (.map es2 clk2) } rfl rfl rfl hsz a1 ag a2 a3 (by
       unfold RowRel
       simp only [upd_self]
       rw [upd_self] at hdat
       exact ⟨b, es2, clk2, q1, hs1, hown, q4, EntsRel.mono hdat hsz hes⟩)
      rw [putRows_append]
      exact ⟨_, this, trivial⟩
     have hgo : ∀ w', (Instr.mapUpdate t (.map (some b)) kv xv).run P w = .ok () w' → (∀ u, Fine N PO w0 env ce (putRows rows (wr ++ [(p.r, { row with body := .map (kkOf P kt) (mset k y ents) })])) w' .junk u) →
       ∃ ef rs' rr' w', K ef rs' rr' ∧ (Instr.mapUpdate t (.map (some b)) kv xv).run P w = .ok () w' ∧ ∀ u, Fine N PO w0 env ce (putRows rows ef.rows) w' ef.val u :=
      fun w' r1 r2 => ⟨_, _, _, w', hh, r1, r2⟩
     cases r with
     | none =>
      obtain ⟨f3, f4⟩ := f3
      refine hgo _ ?_ (fin (es.push { key := kv, val := xv, born := clk }) (clk + 1) ?_)
      ·simp only [Instr.mapUpdate, Sem.run_bind, run_underlying ht, Result.andThen_ok, MapKept.run_getObj_map q2, f1, f2]
       exact MapKept.run_setObj_map _ q2
      ·rw [f4, Array.toList_push]
       exact u5.snoc k1 hkn hrep
     | some q =>
      obtain ⟨j, u⟩ := q
      obtain ⟨mm, a, x0, p1, p2, p3, p4, p5, p6⟩ := f3
      rw [Nat.zero_add] at p1
      subst p1
      obtain ⟨e1, e2, e3, e4, e5⟩ := u5.at _ _ p2
      obtain ⟨c1, c2⟩ := key_same k1 hkr' e3 e4 p3
      refine hgo _ ?_ (fin (es.modify j fun e => { e with key := kv, val := xv }) clk ?_)
      ·have hej : es[j]? = some e1 := by simpa using e2
       have hks : (Instr.keyThatStays e1.key kv).run P w = .ok kv w := by simp [Instr.keyThatStays, c2]
       simp only [Instr.mapUpdate, Sem.run_bind, run_underlying ht, Result.andThen_ok, MapKept.run_getObj_map q2, f1, f2, hej, Option.map_some, Option.getD_some, hks]
       exact MapKept.run_setObj_map _ q2
      ·rw [p6, Array.toList_modify]
       exact u5.set j fun e he => by
        rw [e2] at he
        obtain rfl := Option.some.inj he
        exact ⟨e3, by rw [← c1]; exact e4, hrep⟩
    ·exact hh.elim
   ·exact hh.elim
  ·exact hh.elim
 ·exact hh.elim
theorem makeMapA_sound (h : Core N PO w0 ⟨env, rows⟩ ce w Φ) {dst : Nat} {t : TypeId} {K : Eff → List Nat → List Nat → Prop} (hh : (makeMapA P dst t).wp C d ⟨env, rows⟩ rs rr K) :
  ∃ ef rs' rr' v w', K ef rs' rr' ∧ (Instr.makeMap t none).run P w = .ok v w' ∧ Fine N PO w0 env ce (putRows rows ef.rows) w' ef.val v := by
 unfold makeMapA at hh
 split at hh
 ·rename_i kt e hk
  simp only [mk, RM.wp] at hh
  have hp := pushed_alloc w (.map #[] 0)
  obtain ⟨k1, k2⟩ := h.freshRow dst ⟨freshGen (lget rows dst), true, false, .map (kkOf P kt) []⟩ fresh_gen hp (fun on => by
   unfold RowRel
   simp only [upd_same]
   exact ⟨w.heap.size, #[], 0, rfl, hp.new, trivial, trivial, trivial⟩)
  refine ⟨_, _, _, .map (some w.heap.size), w.alloc (.map #[] 0), hh, by simp [Instr.makeMap], _, k1, ?_⟩
  exact ⟨_, rfl, _, lget_lput_same _ _ _, Nat.le_refl _, fun _ => ⟨_, _, upd_same _ _ _, rfl⟩⟩
 ·exact hh.elim
theorem rangeA_sound (h : Core N PO w0 ⟨env, rows⟩ ce w Φ) {t : TypeId} {x : AV} {v : Value} (hx : Rep w (Av N rows Φ) (Hd rows Φ w) x v) {K : Eff → List Nat → List Nat → Prop} (hh : (rangeA P t x).wp C d ⟨env, rows⟩ rs rr K) :
  ∃ ef rs' rr' u w', K ef rs' rr' ∧ (Instr.range t v).run P w = .ok u w' ∧ Fine N PO w0 env ce (putRows rows ef.rows) w' ef.val u := by
 unfold rangeA at hh
 split at hh
 ·rename_i kt e hk
  have ht := under_map hk
  split at hh
  ·rename_i p
   obtain ⟨ma, e0, row, h0, hg, hhd⟩ := id hx
   simp only [rd, RM.wp, h0] at hh
   split at hh
   ·rename_i hgen
    split at hh
    ·rename_i kk hb
     split at hh
     ·rename_i hown
      obtain ⟨b, es, clk, q1, rfl, q2, q3, q4, q5⟩ := hm_place h.rows hx h0 hgen hb
      obtain rfl : es = #[] := by
       cases he : es.toList with
       | nil => exact Array.toList_eq_nil_iff.1 he
       | cons a l => rw [he] at q5; exact q5.elim
      have hp := pushed_alloc w (.mapIter (some b) clk #[] clk)
      have hbl : b < w.heap.size := (Array.getElem?_eq_some_iff.1 q2).1
      have hcore := Core.setRow h p.r row.dead none (w.alloc (.mapIter (some b) clk #[] clk)) hp.os hp.tape hp.output (by rw [hp.size]; omega) (fun b hb _ => hp.old hb)
       (fun b c e hb => ⟨c, e, (hp.old (Array.getElem?_eq_some_iff.1 hb).1).trans hb, Nat.le_refl _⟩) ⟨(fun e => by rw [show lget (St.rows ⟨env, rows⟩) p.r = _ from h0] at e; cases e), fun row0 e0 => .inl (by
        rw [show lget (St.rows ⟨env, rows⟩) p.r = _ from h0] at e0
        obtain rfl := Option.some.inj e0
        exact Nat.lt_succ_self _)⟩ (fun _ b o e => by cases e) (by
        unfold RowRel
        simp only [Row.dead, upd_same]
        exact ⟨trivial, trivial⟩)
      refine ⟨_, _, _, _, _, hh, run_range_map w t kt e b #[] clk ht q2, upd Φ p.r none, hcore, _, b, clk, clk, clk, rfl, ⟨?_, by rw [hp.size]; omega, hp.new⟩, ?_, by rw [hp.size]; omega, (hp.old hbl).trans q2⟩
      ·rintro (hn | ⟨k, rk, o, hk, hko, hkb⟩)
       ·have := (h.nlt _ hn).1; have := h.size; omega
       ·by_cases hkr : k = p.r
        ·subst hkr; rw [upd_same] at hkb; cases hkb
        ·have hk : lget (lput rows p.r row.dead) k = some rk := hk
         rw [lget_lput_ne _ hkr] at hk
         rw [upd_ne hkr] at hkb
         have := (h.rows k rk hk).lt hkb
         omega
      ·rintro (hn | ⟨k, rk, o, hk, hko, hkb⟩)
       ·exact (h.mine p.r row b 0 h0 hown q1).1 hn
       ·by_cases hkr : k = p.r
        ·subst hkr; rw [upd_same] at hkb; cases hkb
        ·have hk : lget (lput rows p.r row.dead) k = some rk := hk
         rw [lget_lput_ne _ hkr] at hk
         rw [upd_ne hkr] at hkb
         exact hkr (h.inj k p.r rk row b o 0 hk h0 hko hown hkb q1)
     ·exact hh.elim
    ·exact hh.elim
   ·exact hh.elim
  ·exact hh.elim
 ·exact hh.elim
theorem nextA_sound {A : Nat → Prop} {H : AV → Value → Prop} {x : AV} {v : Value} (hx : Rep w A H x v) (ty : TypeId) {σ : St} {K : AV → List Nat → List Nat → Prop} (hh : (nextA x).wp C d σ rs rr K) :
  ∃ y u, K y rs rr ∧ (Instr.next v false ty).run P w = .ok u w ∧ Rep w A H y u := by
 unfold nextA at hh
 split at hh
 ·obtain ⟨b, m, s, c, clk, rfl, ⟨_, _, h3⟩, _, _, h6⟩ := hx
  refine ⟨_, .tuple #[.bool false], hh, ?_, _, rfl, Rep_bool, trivial⟩
  simp only [Instr.next, getObj, Sem.run_bind, Sem.run, h3, h6, Result.andThen]
  have e : ∀ q : MapEntry → Bool, Array.filter q (#[] : Array MapEntry) 0 0 = #[] := fun q => rfl
  simp [choose, Sem.run, Question.forced, e]
 ·exact hh.elim
end
end Go.AL
end
section
namespace Go.AL
section
variable {N PO : Nat → Prop} {w0 : Base} {w w' : World} {env : Env} {rows : Rows} {ce : Nat → Value} {Φ : Nat → Loc}
variable {P : Program} {C : FuncId → List PA → CRes → Prop} {d : Bool} {rs rr : List Nat}
def _root_.Go.Act.val (a : Act) (t : Nat) : Value := a.tmps.getD t undef
abbrev R (N : Nat → Prop) (rows : Rows) (Φ : Nat → Loc) (w : World) : AV → Value → Prop := Rep w (Av N rows Φ) (Hd rows Φ w)
abbrev RL (N : Nat → Prop) (rows : Rows) (Φ : Nat → Loc) (w : World) : List AV → List Value → Prop := RepL w (Av N rows Φ) (Hd rows Φ w)
section
variable {a : Act} (h : Core N PO w0 ⟨env, rows⟩ a.val w Φ)
include h
theorem opd_sound {o : Operand} {K : AV → List Nat → List Nat → Prop} (hh : (opd o).wp C d ⟨env, rows⟩ rs rr K) : ∃ x rs', K x rs' rr ∧ R N rows Φ w x (a.eval o) := by
 cases o with
 | tmp t => exact ⟨_, _, hh, h.env t⟩
 | const v => exact ⟨_, _, hh, Rep_ofValue⟩
 | func f => exact ⟨_, _, hh, rfl, rfl⟩
 | global g => exact hh.elim
theorem opds_sound : ∀ {l : List Operand} {rs : List Nat} {K : List AV → List Nat → List Nat → Prop}, (opds l).wp C d ⟨env, rows⟩ rs rr K → ∃ xs rs', K xs rs' rr ∧ RL N rows Φ w xs (l.map a.eval)
 | [], _, _, hh => ⟨_, _, hh, trivial⟩
 | o :: l, _, _, hh => by
  rw [opds, RM.wp_bind] at hh
  obtain ⟨x, rs1, hh, hx⟩ := opd_sound h hh
  rw [RM.wp_bind] at hh
  obtain ⟨xs, rs2, hh, hxs⟩ := opds_sound hh
  exact ⟨_, _, hh, hx, hxs⟩
theorem opdParts_sound : ∀ {l : List (Nat × Operand)} {rs : List Nat} {K : List (Nat × AV) → List Nat → List Nat → Prop}, (opdParts l).wp C d ⟨env, rows⟩ rs rr K → ∃ xs rs', K xs rs' rr ∧ PartsRep w (Av N rows Φ) (Hd rows Φ w) xs (l.map fun p => (p.1, a.eval p.2))
 | [], _, _, hh => ⟨_, _, hh, trivial⟩
 | (i, o) :: l, _, _, hh => by
  rw [opdParts, RM.wp_bind] at hh
  obtain ⟨x, rs1, hh, hx⟩ := opd_sound h hh
  rw [RM.wp_bind] at hh
  obtain ⟨xs, rs2, hh, hxs⟩ := opdParts_sound hh
  exact ⟨_, _, hh, ⟨rfl, hx⟩, hxs⟩
end
theorem natOf_sound {x : AV} {v : Value} (hx : R N rows Φ w x v) {K : Int → List Nat → List Nat → Prop} (hh : (natOf x).wp C d ⟨env, rows⟩ rs rr K) : ∃ k n, K n rs rr ∧ v = .int k n := by
 unfold natOf at hh
 split at hh
 ·exact ⟨_, _, hh, hx.1⟩
 ·exact hh.elim
def OptInt : Option Int → Option Value → Prop
 | none, none => True
 | some n, some v => ∃ k, v = .int k n
 | _, _ => False
theorem optNat_sound {a : Act} (h : Core N PO w0 ⟨env, rows⟩ a.val w Φ) {o : Option Operand} {K : Option Int → List Nat → List Nat → Prop} (hh : (optNat o).wp C d ⟨env, rows⟩ rs rr K) : ∃ n rs', K n rs' rr ∧ OptInt n (o.map a.eval) := by
 cases o with
 | none => exact ⟨_, _, hh, trivial⟩
 | some o =>
  rw [optNat, RM.wp_bind] at hh
  obtain ⟨x, rs1, hh, hx⟩ := opd_sound h hh
  rw [RM.wp_bind] at hh
  obtain ⟨k, n, hh, e⟩ := natOf_sound hx hh
  exact ⟨_, _, hh, k, e⟩

theorem run_bound {k : IntKind} {n : Int} {y : Nat} {c : BoundsCode} (h0 : 0 ≤ n) (h1 : n ≤ y) (w : World) : (Instr.sliceBound (.int k n) y c).run P w = .ok n.toNat w := by
 simp [Instr.sliceBound, asIntOf, h0, h1]
theorem run_bounds {b : Bool} {len cap : Nat} {lo hi : Option Int} {lv hv : Option Value} (hl : OptInt lo lv) (hh : OptInt hi hv) (h0 : 0 ≤ lo.getD 0) (h1 : lo.getD 0 ≤ hi.getD len) (h2 : hi.getD len ≤ cap) (w : World) :
  (Instr.sliceBounds b len cap lv hv none).run P w = .ok ((lo.getD 0).toNat, (hi.getD len).toNat, cap) w := by
 cases lo with
 | none => cases lv with
  | some _ => exact hl.elim
  | none => cases hi with
   | none => cases hv with
    | some _ => exact hh.elim
    | none => simp [Instr.sliceBounds]
   | some m => cases hv with
    | none => exact hh.elim
    | some v =>
     obtain ⟨k, rfl⟩ := hh
     simp only [Option.getD_some, Option.getD_none] at h1 h2
     have b1 : ∀ c, (Instr.sliceBound (.int k m) cap c).run P w = .ok m.toNat w := fun c => run_bound h1 h2 w
     simp [Instr.sliceBounds, b1]
 | some n => cases lv with
  | none => exact hl.elim
  | some u =>
   obtain ⟨ku, rfl⟩ := hl
   cases hi with
   | none => cases hv with
    | some _ => exact hh.elim
    | none =>
     simp only [Option.getD_some, Option.getD_none] at h0 h1 h2
     have b1 : ∀ c, (Instr.sliceBound (.int ku n) len c).run P w = .ok n.toNat w := fun c => run_bound h0 h1 w
     simp [Instr.sliceBounds, b1]
   | some m => cases hv with
    | none => exact hh.elim
    | some v =>
     obtain ⟨k, rfl⟩ := hh
     simp only [Option.getD_some] at h0 h1 h2
     have b1 : ∀ c, (Instr.sliceBound (.int k m) cap c).run P w = .ok m.toNat w := fun c => run_bound (by omega) h2 w
     have b2 : ∀ c, (Instr.sliceBound (.int ku n) m.toNat c).run P w = .ok n.toNat w := fun c => run_bound h0 (by omega) w
     simp [Instr.sliceBounds, b1, b2]
theorem run_bounds3 {len cap : Nat} {lo hi m : Int} {lo' : Option Int} {lv : Option Value} {kh km : IntKind} (hl : OptInt lo' lv) (e : lo = lo'.getD 0) (h0 : 0 ≤ lo) (h1 : hi = lo) (h2 : m = lo) (h3 : lo ≤ cap) (w : World) :
  (Instr.sliceBounds true len cap lv (some (.int kh hi)) (some (.int km m))).run P w = .ok (lo.toNat, lo.toNat, lo.toNat) w := by
 rw [h1, h2]
 have b1 : ∀ c, (Instr.sliceBound (.int km lo) cap c).run P w = .ok lo.toNat w := fun c => run_bound h0 h3 w
 have b2 : ∀ c, (Instr.sliceBound (.int kh lo) lo.toNat c).run P w = .ok lo.toNat w := fun c => run_bound h0 (by omega) w
 cases lo' with
 | none => cases lv with
  | none => simp only [Option.getD_none] at e; subst e; have b2' : ∀ c, (Instr.sliceBound (.int kh 0) 0 c).run P w = .ok 0 w := b2; simp [Instr.sliceBounds, b1, b2']
  | some _ => exact hl.elim
 | some n => cases lv with
  | none => exact hl.elim
  | some v =>
   obtain ⟨k, rfl⟩ := hl
   simp only [Option.getD_some] at e
   have b3 : ∀ c, (Instr.sliceBound (.int k n) lo.toNat c).run P w = .ok n.toNat w := fun c => run_bound (by omega) (by omega) w
   subst e
   simp [Instr.sliceBounds, b1, b2, b3]
theorem repRow_cells {A : Nat → Prop} {H : AV → Value → Prop} {b : Nat} : ∀ {cs : List AV} {vs : List Value} {o : Nat}, RepL w A H cs vs → HasCells w b o vs → RepRow w A H cs b o 1
 | [], [], _, _, _ => trivial
 | c :: cs, v :: vs, o, h, hc => by
  have h0 := hc 0 v rfl
  have hv := cells_one h0.1
  refine ⟨⟨v, by rw [hv]; rfl, ?_, h.1⟩, repRow_cells h.2 fun j u hj => ?_⟩
  ·rw [hv]
   intro j u hj
   cases j with
   | zero => simp at hj; subst hj; exact h0
   | succ j => simp at hj
  ·have := hc (j + 1) u (by simpa using hj)
   rw [show o + 1 + j = o + (j + 1) by omega]
   exact this
 | [], _ :: _, _, h, _ => h.elim
 | _ :: _, [], _, h, _ => h.elim
theorem cellsOf_rep {A : Nat → Prop} {H : AV → Value → Prop} (hH : ∀ x v, H x v → v.oneCell' = true) {x : AV} {u : Value} (h : Rep w A H x u) (hl : (cellsOf x).length = u.cells.size) : RepL w A H (cellsOf x) u.cells.toList := by
 by_cases hs : sole x = true
 ·have h1 := cells_one (h.one hH hs)
  have hc : cellsOf x = [x] := by cases x <;> first | rfl | (simp [sole] at hs)
  rw [h1, hc]
  exact ⟨h, trivial⟩
 ·cases x with
  | agg cs => obtain ⟨vs, rfl, h1, h2⟩ := h; exact h2
  | tup cs =>
   obtain ⟨vs, rfl, h2⟩ := h
   exact ⟨⟨vs, rfl, h2⟩, trivial⟩
  | junk =>
   have : ∃ c, u.cells.toList = [c] := by
    have hl : u.cells.toList.length = 1 := by rw [Array.length_toList]; exact hl.symm
    match u.cells.toList, hl with
    | [c], _ => exact ⟨c, rfl⟩
   obtain ⟨c, hc⟩ := this
   rw [hc]
   exact ⟨trivial, trivial⟩
  | nst =>
   have : ∃ c, u.cells.toList = [c] := by
    have hl : u.cells.toList.length = 1 := by rw [Array.length_toList]; exact hl.symm
    match u.cells.toList, hl with
    | [c], _ => exact ⟨c, rfl⟩
   obtain ⟨c, hc⟩ := this
   rw [hc]
   exact ⟨trivial, trivial⟩
  | _ => simp [sole] at hs
theorem HasCells.part {b o : Nat} {vs : List Value} (h : HasCells w b o vs) (k n : Nat) : HasCells w b (o + k) ((vs.drop k).take n) := by
 intro j v hj
 rw [List.getElem?_take] at hj
 split at hj
 ·rw [List.getElem?_drop] at hj
  rw [Nat.add_assoc]
  exact h _ v hj
 ·cases hj
theorem run_slice_arr {t e : TypeId} {n : Nat} (ht : P.underlying t = some (.array n e)) (hs : sizeOf P e = some 1) {lo hi : Option Int} {lv hv : Option Value} (hl : OptInt lo lv) (hh : OptInt hi hv) (h0 : 0 ≤ lo.getD 0) (h1 : lo.getD 0 ≤ hi.getD n) (h2 : hi.getD n ≤ n) (b o : Nat) :
  ∃ a, (Instr.sliceAt t (.pointer (some ⟨b, o, none⟩)) lv hv none).run P w = .ok (.slice (some a) ((hi.getD n).toNat - (lo.getD 0).toNat) (n - (lo.getD 0).toNat)) w ∧ ((lo.getD 0).toNat < n → a = ⟨b, o + (lo.getD 0).toNat, none⟩) := by
 refine ⟨if n = (lo.getD 0).toNat then ⟨b, o, none⟩ else (⟨b, o, none⟩ : Addr).add ((lo.getD 0).toNat * 1), ?_, fun hlt => ?_⟩
 ·simp only [Instr.sliceAt, Sem.run_bind, run_underlying ht, Result.andThen_ok, Instr.sureAddr, Sem.run_pure, run_bounds (P := P) (b := false) hl hh h0 h1 h2 w, run_sizeOf_some hs]
 ·rw [if_neg (by omega), addr_add, Nat.mul_one]
theorem run_slice_slice {t e : TypeId} (ht : P.underlying t = some (.slice e)) {s : Nat} (hs : sizeOf P e = some s) {lo hi : Option Int} {lv hv : Option Value} (hl : OptInt lo lv) (hh : OptInt hi hv) {len cap : Nat} (h0 : 0 ≤ lo.getD 0) (h1 : lo.getD 0 ≤ hi.getD len) (h2 : hi.getD len ≤ cap) (a : Option Addr) :
  (Instr.sliceAt t (.slice a len cap) lv hv none).run P w = .ok (.slice (if cap = (lo.getD 0).toNat then a else a.map (·.add ((lo.getD 0).toNat * s))) ((hi.getD len).toNat - (lo.getD 0).toNat) (cap - (lo.getD 0).toNat)) w := by
 simp only [Instr.sliceAt, Instr.slice, Sem.run_bind, run_underlying ht, Result.andThen_ok, Sem.run_pure, run_bounds (P := P) (b := true) hl hh h0 h1 h2 w, run_sizeOf_some hs]
theorem sub_toNat {x y : Int} (h0 : 0 ≤ x) (h1 : x ≤ y) : (y - x).toNat = y.toNat - x.toNat := by omega
theorem sliceA_sound (h : Core N PO w0 ⟨env, rows⟩ ce w Φ) {t : TypeId} {x : AV} {xv : Value} (hx : R N rows Φ w x xv) {lo hi mx : Option Int} {lv hv mv : Option Value} (hl : OptInt lo lv) (hi' : OptInt hi hv) (hm : OptInt mx mv) {K : Eff → List Nat → List Nat → Prop}
  (hh : (sliceA P t x lo hi mx).wp C d ⟨env, rows⟩ rs rr K) :
  ∃ ef rs' rr' v, K ef rs' rr' ∧ (Instr.sliceAt t xv lv hv mv).run P w = .ok v w ∧ Fine N PO w0 env ce (putRows rows ef.rows) w ef.val v := by
 have mnone : mx = none → mv = none := by
  rintro rfl
  cases mv with
  | none => rfl
  | some _ => exact hm.elim
 unfold sliceA at hh
 split at hh
 ·rename_i n e hk
  have ht := under_arr hk
  split at hh
  ·rename_i es xs i j
   obtain ⟨⟨h0, h1, h2, h3, h4, h5, h6, h7⟩, hh⟩ := hh
   obtain rfl := mnone h3
   obtain ⟨b, o, rfl, g1, g2, g3⟩ := hx
   obtain ⟨ad, r1, r2⟩ := run_slice_arr (P := P) (w := w) ht h4 hl hi' h0 h1 h2 b (o + i * es + j)
   obtain ⟨u, k1, k2, k3⟩ := g3.at i _ (at_eq h5)
   refine ⟨_, _, _, _, hh, r1, Φ, h, ?_⟩
   have hlen : (((cellsOf (at_ xs i)).drop (j + (lo.getD 0).toNat)).take (hi.getD n - lo.getD 0).toNat).length = (hi.getD n).toNat - (lo.getD 0).toNat := by
    rw [List.length_take, List.length_drop, h7, sub_toNat h0 h1]
    omega
   refine ⟨_, _, by rw [hlen], by rw [hlen]; omega, ?_⟩
   by_cases hlt : (lo.getD 0).toNat < n
   ·refine .inr ⟨b, o + i * es + (j + (lo.getD 0).toNat), by rw [r2 hlt, Nat.add_assoc (o + i * es)], g1, g2, ?_⟩
    have hcr := cellsOf_rep noH_one k3 (by rw [h7, k1])
    exact repRow_cells ((hcr.drop _).take _) (k2.part _ _)
   ·exact .inl (List.eq_nil_of_length_eq_zero (by rw [hlen]; omega))
  ·rename_i p i j
   obtain ⟨ad, e0, row, h0', hg, hhd⟩ := id hx
   simp only [rd, RM.wp, h0'] at hh
   split at hh
   ·rename_i hgen
    split at hh
    ·rename_i es xs hb
     obtain ⟨⟨h0, h1, h2, h3, h4, h5, h6, h7⟩, hh⟩ := hh
     obtain rfl := mnone h3
     obtain ⟨b, ob, q1, rfl, q2, q3, q4, q5⟩ := hp_place h.rows hx h0' hgen hb
     obtain ⟨ad, r1, r2⟩ := run_slice_arr (P := P) (w := w) ht h4 hl hi' h0 h1 h2 b (ob + i * es + j)
     obtain ⟨u, k1, k2, k3⟩ := q2.at i _ (at_eq h5)
     have k3' : R N rows Φ w (at_ xs i) u := by
      split at k3
      ·exact k3
      ·exact k3.ofNoH
     have hcr := cellsOf_rep (fun _ _ => Hd.one) k3' (by rw [h7, k1])
     rw [RM.wp_bind] at hh
     obtain ⟨ys, wr, rs', rr', hh, f1, f2, f3, f4⟩ := giveUpL_sound h.rows ((hcr.drop (j + (lo.getD 0).toNat)).take (hi.getD n - lo.getD 0).toNat) hh
     have f5 : FrzW rows (wr ++ (if row.own then [(p.r, { row with own := false })] else [])) := by
      refine f1.append fun q hq => ?_
      split at hq
      ·obtain rfl := List.mem_singleton.1 hq
       exact ⟨row, es, xs, h0', hb, rfl⟩
      ·cases hq
     have hfz := f5.put (Frz.refl rows)
     have hcore := hfz.core h
     have hrep := f4 _ hfz (fun r row hm => f5.get (.inl (List.mem_append.2 (.inl hm)))) hcore.rows
     refine ⟨_, _, _, _, hh, r1, Φ, hcore, ?_⟩
     have hlen : ys.length = (hi.getD n).toNat - (lo.getD 0).toNat := by
      rw [f3, List.length_take, List.length_drop, h7, sub_toNat h0 h1]
      omega
     refine ⟨_, _, by rw [hlen], by rw [hlen]; omega, ?_⟩
     by_cases hlt : (lo.getD 0).toNat < n
     ·refine .inr ⟨b, ob + i * es + (j + (lo.getD 0).toNat), by rw [r2 hlt, Nat.add_assoc (ob + i * es)], ?_, q3, repRow_cells hrep (k2.part _ _)⟩
      have hρr : lget (putRows rows (wr ++ (if row.own then [(p.r, { row with own := false })] else []))) p.r = some { row with own := false } := by
       by_cases ho : row.own = true
       ·exact f5.get (.inl (List.mem_append.2 (.inr (by rw [if_pos ho]; exact .head _))))
       ·obtain ⟨o', h1, h2⟩ := hfz.get h0'
        have : o' = false := by cases o' with | false => rfl | true => exact absurd (h2 rfl) ho
        rw [this] at h1; exact h1
      have hrr := hcore.rows p.r _ hρr
      unfold RowRel at hrr
      simp only [hb, q1] at hrr
      have := hrr.2.2.1 trivial
      simp only [hb]
      exact this
     ·exact .inl (List.eq_nil_of_length_eq_zero (by rw [hlen]; omega))
    ·exact hh.elim
   ·exact hh.elim
  ·exact hh.elim
 ·rename_i e hk
  have ht := under_slice hk
  split at hh
  ·split at hh
   ·rename_i hsome
    obtain ⟨s, hs⟩ := Option.isSome_iff_exists.1 hsome
    obtain ⟨⟨h0, h1, h2⟩, hh⟩ := hh
    obtain rfl := mnone h2
    obtain ⟨ad, rfl⟩ := hx
    have h1' : hi.getD ((0 : Nat) : Int) = 0 := h1
    refine ⟨_, _, _, _, hh, run_slice_slice ht hs hl hi' (by omega) (by omega) (by omega) ad, Φ, h, ?_⟩
    rw [h0, h1']
    exact ⟨_, rfl⟩
   ·exact hh.elim
  ·rename_i es xs
   obtain ⟨⟨h0, h1, h2⟩, hh⟩ := hh
   split at hh
   ·rename_i hs
    obtain ⟨ad, cap, rfl, hc, hr⟩ := hx
    split at hh
    ·obtain rfl := mnone rfl
     refine ⟨_, _, _, _, hh, run_slice_slice ht hs hl hi' h0 h1 (by omega) ad, Φ, h, ?_⟩
     have hlen : ((xs.drop (lo.getD 0).toNat).take (hi.getD xs.length - lo.getD 0).toNat).length = (hi.getD xs.length).toNat - (lo.getD 0).toNat := by
      rw [List.length_take, List.length_drop, sub_toNat h0 h1]
      omega
     refine ⟨_, _, by rw [hlen], by rw [hlen]; omega, ?_⟩
     by_cases hlt : cap = (lo.getD 0).toNat
     ·exact .inl (List.eq_nil_of_length_eq_zero (by rw [hlen]; omega))
     ·rcases hr with rfl | ⟨b, o, rfl, g1, g2, g3⟩
      ·exact .inl (by simp)
      ·exact .inr ⟨b, o + (lo.getD 0).toNat * es, by rw [if_neg hlt]; simp [addr_add], g1, g2, (g3.drop _).take _⟩
    ·rename_i m
     obtain ⟨⟨m1, m2, m3⟩, hh⟩ := hh
     cases mv with
     | none => exact hm.elim
     | some mv =>
      obtain ⟨km, rfl⟩ := hm
      cases hi with
      | none => cases m3
      | some hi =>
       cases hv with
       | none => exact hi'.elim
       | some hv =>
        obtain ⟨kh, rfl⟩ := hi'
        simp only [Option.getD_some] at m2 h1 h2
        refine ⟨_, _, _, .slice (if (lo.getD 0).toNat = (lo.getD 0).toNat then ad else ad.map (·.add ((lo.getD 0).toNat * es))) ((lo.getD 0).toNat - (lo.getD 0).toNat) ((lo.getD 0).toNat - (lo.getD 0).toNat), hh, ?_, Φ, h, ?_⟩
        ·simp only [Instr.sliceAt, Instr.slice, Sem.run_bind, run_underlying ht, Result.andThen_ok, Sem.run_pure, run_bounds3 (P := P) (lo := lo.getD 0) (hi := hi) (m := m) (len := xs.length) (cap := cap) hl rfl h0 m2 m1 (by omega) w, run_sizeOf_some hs]
        ·exact ⟨ad, by simp⟩
   ·exact hh.elim
  ·rename_i p o n
   obtain ⟨ad, cap, rfl, hc, hz, row, h0', hg, hhd⟩ := id hx
   simp only [rd, RM.wp, h0'] at hh
   split at hh
   ·rename_i hgen
    split at hh
    ·rename_i es xs hb
     obtain ⟨⟨h0, h1, h2, h3⟩, hh⟩ := hh
     obtain rfl := mnone h3
     split at hh
     ·rename_i hs
      refine ⟨_, _, _, _, hh, run_slice_slice ht hs hl hi' h0 h1 (by omega) ad, Φ, h, ?_⟩
      have e1 : (hi.getD n - lo.getD 0).toNat = (hi.getD n).toNat - (lo.getD 0).toNat := sub_toNat h0 h1
      refine ⟨_, _, by rw [e1], by rw [e1]; omega, ?_, row, h0', hg, fun _ es' xs' hb' => ?_⟩
      ·intro hn
       rw [e1]
       split at hn
       ·have := hz hn; omega
       ·cases ad with
        | none => have := hz rfl; omega
        | some _ => cases hn
      ·rw [hb] at hb'
       obtain ⟨rfl, rfl⟩ := by simpa using hb'
       have hhd := hhd hgen es xs hb
       cases hp : Φ p.r with
       | none => rw [hp] at hhd; have hhd : cap = 0 := hhd; show cap - _ = 0; omega
       | some y =>
        obtain ⟨b, ob⟩ := y
        rw [hp] at hhd
        refine ⟨?_, fun ho => ?_⟩
        ·by_cases hlt : cap = (lo.getD 0).toNat
         ·exact .inl (by omega)
         ·rcases hhd.1 with hc0 | rfl
          ·exact .inl (by omega)
          ·refine .inr ?_
           rw [if_neg hlt]
           simp [addr_add, Nat.add_mul, Nat.add_assoc]
        ·obtain ⟨c, ec, c1, c2⟩ := hhd.2 ho
         refine ⟨c, ec, c1, ?_⟩
         have hle : o + (lo.getD 0).toNat + (cap - (lo.getD 0).toNat) ≤ o + cap ∨ cap < (lo.getD 0).toNat := by omega
         rcases hle with hle | hle
         ·exact Nat.le_trans (Nat.add_le_add_left (Nat.mul_le_mul_right _ hle) _) c2
         ·omega
     ·exact hh.elim
    ·exact hh.elim
   ·exact hh.elim
  ·exact hh.elim
 ·rename_i hk
  have ht := under_str hk
  split at hh
  ·rename_i s
   obtain ⟨⟨h0, h1, h2, h3⟩, hh⟩ := hh
   obtain rfl := mnone h3
   obtain ⟨rfl, _⟩ := hx
   refine ⟨_, _, _, .string (s.extract (lo.getD 0).toNat (hi.getD s.size).toNat), hh, ?_, Φ, h, Rep_str⟩
   simp [Instr.sliceAt, Instr.slice, run_underlying ht, run_bounds (P := P) (b := false) hl hi' h0 h1 h2 w]
  ·exact hh.elim
 ·exact hh.elim
end
end Go.AL
end
