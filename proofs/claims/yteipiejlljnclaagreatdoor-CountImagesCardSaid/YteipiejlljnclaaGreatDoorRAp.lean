/- The abstract layer, part 16: values; every operation but the calls of functions. No condition. -/
import Derived.Test.YteipiejlljnclaaGreatDoorRAf
set_option linter.unusedVariables false
set_option linter.unusedSectionVars false
set_option linter.unusedSimpArgs false
set_option linter.unnecessarySimpa false
section
namespace Go.AL
section
variable {N PO : Nat → Prop} {w0 : Base} {w w' : World} {env env' : Env} {rows rows' : Rows} {ce : Nat → Value} {Φ : Nat → Loc}
variable {P : Program} {C : FuncId → List PA → CRes → Prop} {d : Bool} {rs rr : List Nat}

theorem Hd.ext (hr : ∀ r, lget rows' r = lget rows r) {x : AV} {v : Value} (h : Hd rows Φ w x v) : Hd rows' Φ w x v := by
 cases x with
 | hs p o n => obtain ⟨a, cap, e, hc, hz, row, h0, hg, hh⟩ := h; exact ⟨a, cap, e, hc, hz, row, (hr _).trans h0, hg, hh⟩
 | hp p i j => obtain ⟨a, e, row, h0, hg, hh⟩ := h; exact ⟨a, e, row, (hr _).trans h0, hg, hh⟩
 | hm p => obtain ⟨m, e, row, h0, hg, hh⟩ := h; exact ⟨m, e, row, (hr _).trans h0, hg, hh⟩
 | _ => exact h.elim
theorem Av.ext (hr : ∀ r, lget rows' r = lget rows r) {b : Nat} (h : Av N rows' Φ b) : Av N rows Φ b := by
 rcases h with h | ⟨r, row, o, h1, h2, h3⟩
 ·exact .inl h
 ·exact .inr ⟨r, row, o, (hr r).symm.trans h1, h2, h3⟩
theorem Rep.ext (hr : ∀ r, lget rows' r = lget rows r) {x : AV} {v : Value} (h : Rep w (Av N rows Φ) (Hd rows Φ w) x v) : Rep w (Av N rows' Φ) (Hd rows' Φ w) x v :=
 Rep.mono (fun b hb _ => ⟨rfl, fun h => hb (h.ext hr)⟩) (Nat.le_refl _) (fun _ _ => Hd.ext hr) h
theorem RowRel.ext (hr : ∀ r, lget rows' r = lget rows r) {r : Nat} {row : Row} (h : RowRel w N rows Φ r row) : RowRel w N rows' Φ r row := by
 unfold RowRel at *
 split at h
 ·cases hp : Φ r with
  | none => rw [hp] at h; exact h
  | some x =>
   obtain ⟨b, ob⟩ := x
   rw [hp] at h
   obtain ⟨h1, h2, h3, h4⟩ := h
   refine ⟨RepRow.mono (fun b hb _ => ⟨rfl, fun h => hb (h.ext hr)⟩) (Nat.le_refl _) ?_ rfl h1, h2, fun ho h => h3 ho (h.ext hr), h4⟩
   intro x v hv
   split at hv
   ·rename_i hbx; rw [if_pos hbx]; exact hv.ext hr
   ·exact hv.elim
 ·obtain ⟨b, es, clk, h1, h2, h3, h4, h5⟩ := h
  exact ⟨b, es, clk, h1, h2, h3, h4, EntsRel.mono (fun b hb _ => ⟨rfl, fun h => hb (h.ext hr)⟩) (Nat.le_refl _) h5⟩
theorem Core.ext (h : Core N PO w0 ⟨env, rows⟩ ce w Φ) (hs : ∀ t, St.slot ⟨env', rows'⟩ t = St.slot ⟨env, rows⟩ t) (hr : ∀ r, lget rows' r = lget rows r) : Core N PO w0 ⟨env', rows'⟩ ce w Φ :=
 ⟨h.os, h.tape, h.output, h.size, h.old, h.nlt, h.grows, fun r row h0 => h.gen0 r row ((hr r).symm.trans h0), fun t => by rw [hs]; exact (h.env t).ext hr, fun r row h0 => (h.rows r row ((hr r).symm.trans h0)).ext hr,
  fun r r' row row' b o o' h1 h2 => h.inj r r' row row' b o o' ((hr r).symm.trans h1) ((hr r').symm.trans h2), fun r row b o h1 => h.mine r row b o ((hr r).symm.trans h1)⟩
theorem lget_same {r : Nat} {row : Row} (h : lget rows r = some row) (k : Nat) : lget (lput rows r row) k = lget rows k := by
 by_cases hk : k = r
 ·subst hk; rw [lget_lput_same, h]
 ·rw [lget_lput_ne _ hk]
theorem Core.same (h : Core N PO w0 ⟨env, rows⟩ ce w Φ) {r : Nat} {row : Row} (h0 : lget rows r = some row) {x : AV} {v : Value} (hx : R N rows Φ w x v) : Fine N PO w0 env ce (lput rows r row) w x v :=
 ⟨Φ, h.ext (fun _ => rfl) (lget_same h0), hx.ext (lget_same h0)⟩

theorem unOpA_sound {op : UnOp} {x : AV} {v : Value} (hx : R N rows Φ w x v) {K : AV → List Nat → List Nat → Prop} (hh : (unOpA op x).wp C d ⟨env, rows⟩ rs rr K) : ∃ y u, K y rs rr ∧ (Op.unary op v).run P w = .ok u w ∧ R N rows Φ w y u := by
 unfold unOpA at hh
 split at hh
 ·obtain ⟨rfl, _⟩ := hx; exact ⟨_, _, hh, by simp [Op.unary], Rep_bool⟩
 ·obtain ⟨rfl, _⟩ := hx; exact ⟨_, _, hh, by simp [Op.unary, Op.intArith], Rep_int⟩
 ·obtain ⟨rfl, _⟩ := hx; exact ⟨_, _, hh, by simp [Op.unary, Op.intBits, ibits], Rep_int⟩
 ·exact hh.elim
theorem run_equal_bool {t : TypeId} (ht : P.underlying t = some .bool) (a b : Bool) (dd : Nat) (w : World) : (Op.equalIn (dd + 1) t (.bool a) (.bool b)).run P w = .ok (a == b) w := by simp [Op.equalIn, run_underlying ht]
theorem equal_def (t : TypeId) (x y : Value) : Op.equal t x y = Op.equalIn (9998 + 2) t x y := rfl
theorem binOpA_sound {op : BinOp} {t : TypeId} {x y : AV} {xo yo : Operand} {xv yv : Value} (hx : R N rows Φ w x xv) (hy : R N rows Φ w y yv) (hyo : isNil yo = true → yv = .slice none 0 0) {K : AV → List Nat → List Nat → Prop} (hh : (binOpA P op t x y yo).wp C d ⟨env, rows⟩ rs rr K) :
  ∃ z rs' rr' u, K z rs' rr' ∧ (eqGuard op t xo yo xv yv).run P w = .ok () w ∧ (binOp op t xv yv).run P w = .ok u w ∧ R N rows Φ w z u := by
 have guard : (∀ cs, xv ≠ .agg cs) → xv ≠ .nilIface → (eqGuard op t xo yo xv yv).run P w = .ok () w := fun h1 h2 => eqGuard_plain h1 h2
 unfold binOpA at hh
 split at hh
 ·rename_i k a k' b
  obtain ⟨rfl, _⟩ := hx
  obtain ⟨rfl, _⟩ := hy
  split at hh
  ·rename_i hk
   obtain ⟨z, u, h1, h2, h3⟩ := binInt_sound (P := P) (w := w) (A := Av N rows Φ) (H := Hd rows Φ w) (t := t) hk hh
   exact ⟨z, _, _, u, h1, guard (by simp) (by simp), h3, h2⟩
  ·exact hh.elim
 ·rename_i a b
  obtain ⟨rfl, _⟩ := hx
  obtain ⟨rfl, _⟩ := hy
  split at hh
  ·rename_i hb
   have ht : P.underlying t = some .bool := under_bool (by cases hk : (tyOf P t).k <;> simp [hk, TK.isBool] at hb; rfl)
   have he : (Op.equal t (.bool a) (.bool b)).run P w = .ok (a == b) w := run_equal_bool ht a b 9999 w
   unfold binBool at hh
   split at hh
   ·exact ⟨_, _, _, .bool (a == b), hh, guard (by simp) (by simp), by simp only [binOp, Sem.run_bind, he, Result.andThen_ok, Sem.run_pure], Rep_bool⟩
   ·exact ⟨_, _, _, .bool (a != b), hh, guard (by simp) (by simp), by simp only [binOp, Sem.run_bind, he, Result.andThen_ok, Sem.run_pure]; rfl, Rep_bool⟩
   ·exact hh.elim
  ·exact hh.elim
 ·rename_i a b
  obtain ⟨rfl, _⟩ := hx
  obtain ⟨rfl, _⟩ := hy
  unfold binStr at hh
  split at hh
  ·exact ⟨_, _, _, .bool (a.toList == b.toList), hh, guard (by simp) (by simp), by simp [binOp, Op.stringOp], by rw [← beq_toListBytes]; exact Rep_bool⟩
  ·exact ⟨_, _, _, .bool !(a.toList == b.toList), hh, guard (by simp) (by simp), by simp [binOp, Op.stringOp], by rw [← beq_toListBytes]; exact Rep_bool⟩
  ·obtain ⟨hs, hh⟩ := hh
   exact ⟨_, _, _, .string (a ++ b), hh, guard (by simp) (by simp), by rw [binOp_string_add]; exact run_string_add_sum (w := w) a b hs, Rep_str⟩
  ·exact hh.elim
 ·rename_i as bs
  obtain ⟨⟨ha, hb⟩, hh⟩ := hh
  obtain ⟨n, k, la, h1, h2, rfl⟩ := kkOf_agg ha
  obtain ⟨n', k', lb, h1', h2', rfl⟩ := kkOf_agg hb
  rw [h1] at h1'
  obtain ⟨rfl, rfl⟩ := by simpa using h1'
  obtain ⟨vs, rfl, _, hvs⟩ := hx
  obtain ⟨us, rfl, _, hus⟩ := hy
  have e1 : vs = (la.map fun n => Value.int k n).toArray := by apply Array.ext'; rw [RepL_ints hvs]
  have e2 : us = (lb.map fun n => Value.int k n).toArray := by apply Array.ext'; rw [RepL_ints hus]
  subst e1 e2
  have he : (Op.equal t (.agg (la.map fun n => Value.int k n).toArray) (.agg (lb.map fun n => Value.int k n).toArray)).run P w = .ok (la == lb) w := by
   rw [equal_def]; exact run_equal_ints h1 la lb h2 h2' 9998 w
  have hg := eqGuard_ints (P := P) h1 op xo yo (la.map fun n => Value.int k n).toArray (lb.map fun n => Value.int k n).toArray w
  rw [keysEq_ints] at hh
  split at hh
  ·exact ⟨_, _, _, .bool (la == lb), hh, hg, by simp only [binOp, Sem.run_bind, he, Result.andThen_ok, Sem.run_pure], Rep_bool⟩
  ·exact ⟨_, _, _, .bool !(la == lb), hh, hg, by simp only [binOp, Sem.run_bind, he, Result.andThen_ok, Sem.run_pure], Rep_bool⟩
  ·exact hh.elim
 ·split at hh
  ·rename_i hc
   simp only [Bool.and_eq_true] at hc
   obtain ⟨e, hk⟩ : ∃ e, (tyOf P t).k = .slice e := by cases hk : (tyOf P t).k <;> simp [hk, TK.isSlice] at hc; exact ⟨_, rfl⟩
   obtain rfl := hyo hc.2
   obtain ⟨a, cap, rfl, hz⟩ := slice_of_data hx
   obtain ⟨z, u, h1, h2, h3⟩ := binNil_sound (P := P) (A := Av N rows Φ) (H := Hd rows Φ w) (cap := cap) (under_slice hk) hz hh w none rfl 0
   exact ⟨z, _, _, u, h1, guard (by simp) (by simp), h3, h2⟩
  ·exact hh.elim
 ·split at hh
  ·rename_i hc
   simp only [Bool.and_eq_true] at hc
   obtain ⟨e, hk⟩ : ∃ e, (tyOf P t).k = .slice e := by cases hk : (tyOf P t).k <;> simp [hk, TK.isSlice] at hc; exact ⟨_, rfl⟩
   obtain rfl := hyo hc.2
   obtain ⟨a, cap, rfl, _, hz, _⟩ := hx
   obtain ⟨z, u, h1, h2, h3⟩ := binNil_sound (P := P) (A := Av N rows Φ) (H := Hd rows Φ w) (cap := cap) (under_slice hk) hz hh w none rfl 0
   exact ⟨z, _, _, u, h1, guard (by simp) (by simp), h3, h2⟩
  ·exact hh.elim
 ·split at hh
  ·rename_i hc
   simp only [Bool.and_eq_true] at hc
   obtain ⟨e, hk⟩ : ∃ e, (tyOf P t).k = .slice e := by cases hk : (tyOf P t).k <;> simp [hk, TK.isSlice] at hc; exact ⟨_, rfl⟩
   obtain rfl := hyo hc.2
   obtain ⟨a, rfl⟩ := hx
   obtain ⟨z, u, h1, h2, h3⟩ := binNil_sound (P := P) (A := Av N rows Φ) (H := Hd rows Φ w) (cap := 0) (under_slice hk) (fun _ => rfl) hh w none rfl 0
   exact ⟨z, _, _, u, h1, guard (by simp) (by simp), h3, h2⟩
  ·exact hh.elim
 ·exact hh.elim
theorem valPart_sound {t : TypeId} {cs : List AV} {vs : Array Value} (h1 : ∀ x ∈ vs.toList, x.oneCell' = true) (h2 : RL N rows Φ w cs vs.toList) {off : Nat} {K : AV → List Nat → List Nat → Prop} (hh : (valPart P t cs off).wp C d ⟨env, rows⟩ rs rr K) :
  ∃ z rs' rr' u, K z rs' rr' ∧ (part t vs off).run P w = .ok u w ∧ R N rows Φ w z u := by
 unfold valPart at hh
 split at hh
 ·rename_i hok
  obtain ⟨hl, hh⟩ := hh
  have hl : off + (tyOf P t).size ≤ cs.length := hl
  have hlen := h2.length
  obtain ⟨de, i, z, g1, g2, g3, g4, g5, g6, g7, g8, g9, g10⟩ := tyOf_ok hok
  have hagg := isAgg_kind g1 w
  rw [← g4] at hagg
  cases ha : (tyOf P t).k.isAgg with
  | true =>
   rw [ha] at hagg hh
   refine ⟨_, _, _, .agg (vs.extract off (off + (tyOf P t).size)), hh, by simp [part, hagg, sizeOf_ok hok], _, rfl, ?_, ?_⟩
   ·intro x hx
    rw [Array.toList_extract, List.extract_eq_take_drop] at hx
    exact h1 x (List.mem_of_mem_drop (List.mem_of_mem_take hx))
   ·rw [Array.toList_extract, List.extract_eq_take_drop]
    rw [show off + (tyOf P t).size - off = (tyOf P t).size by omega]
    exact (h2.drop off).take _
  | false =>
   rw [ha] at hagg hh
   have hs := size_one hok ha
   have hoc : off < cs.length := by omega
   obtain ⟨u, k1, k2⟩ := h2.at off _ (at_eq hoc)
   have k1 : vs[off]? = some u := by simpa using k1
   exact ⟨_, _, _, u, hh, by simp [part, hagg, k1], k2⟩
 ·exact hh.elim
theorem fieldA_sound {t : TypeId} {x : AV} {v : Value} (hx : R N rows Φ w x v) {f : Nat} {K : AV → List Nat → List Nat → Prop} (hh : (fieldA P t x f).wp C d ⟨env, rows⟩ rs rr K) : ∃ z rs' rr' u, K z rs' rr' ∧ (Instr.field t v f).run P w = .ok u w ∧ R N rows Φ w z u := by
 unfold fieldA at hh
 split at hh
 ·rename_i fs cs hk
  obtain ⟨gs, ht, rfl⟩ := under_struct hk
  split at hh
  ·rename_i q hq
   simp only [List.getElem?_map, Option.map_eq_some_iff, Array.getElem?_toList] at hq
   obtain ⟨g, hg, rfl⟩ := hq
   obtain ⟨vs, rfl, h1, h2⟩ := hx
   obtain ⟨z, rs', rr', u, k1, k2, k3⟩ := valPart_sound h1 h2 hh
   exact ⟨z, rs', rr', u, k1, by simp [Instr.field, run_underlying ht, hg, asAgg, k2], k3⟩
  ·exact hh.elim
 ·exact hh.elim
theorem indexA_sound {t : TypeId} {x : AV} {v : Value} (hx : R N rows Φ w x v) {k : IntKind} {i : Int} {K : AV → List Nat → List Nat → Prop} (hh : (indexA P t x i).wp C d ⟨env, rows⟩ rs rr K) : ∃ z rs' rr' u, K z rs' rr' ∧ (Instr.index t v (.int k i)).run P w = .ok u w ∧ R N rows Φ w z u := by
 unfold indexA at hh
 split at hh
 ·rename_i n e cs hk
  have ht := under_arr hk
  obtain ⟨⟨h0, h1'⟩, hh⟩ := hh
  obtain ⟨vs, rfl, h1, h2⟩ := hx
  have hh0 := hh
  unfold valPart at hh0
  split at hh0
  ·rename_i hok
   obtain ⟨z, rs', rr', u, k1, k2, k3⟩ := valPart_sound h1 h2 hh
   exact ⟨z, rs', rr', u, k1, by simp [Instr.index, asIntOf, run_underlying ht, h0, h1', sizeOf_ok hok, k2], k3⟩
  ·exact hh0.elim
 ·rename_i s hk
  have ht := under_str hk
  obtain ⟨⟨h0, h1⟩, hh⟩ := hh
  obtain ⟨rfl, _⟩ := hx
  have hlt : i.toNat < s.size := by omega
  refine ⟨_, _, _, .int .u8 (s.data.toList.getD i.toNat 0).toNat, hh, ?_, Rep_int⟩
  have hd : i.toNat < s.data.size := hlt
  have e1 : s[i.toNat]? = some s[i.toNat] := by simp [hlt]
  have e2 : s.data.toList.getD i.toNat 0 = s[i.toNat] := by
   rw [List.getD, Array.getElem?_toList, Array.getElem?_eq_getElem hd]
   rfl
  rw [e2]
  simp [Instr.index, asIntOf, run_underlying ht, h0, e1]
 ·exact hh.elim
theorem lenA_sound (hrow : ∀ r row, lget rows r = some row → RowRel w N rows Φ r row) {t : TypeId} {x : AV} {v : Value} (hx : R N rows Φ w x v) {ty : TypeId} {K : AV → List Nat → List Nat → Prop} (hh : (lenA P t x).wp C d ⟨env, rows⟩ rs rr K) :
  ∃ z rs' rr' u, K z rs' rr' ∧ (Builtin.len_ #[t] ty #[v]).run P w = .ok u w ∧ R N rows Φ w z u := by
 unfold lenA at hh
 split at hh
 ·rename_i e hk
  have ht := under_slice hk
  split at hh
  ·obtain ⟨a, rfl⟩ := hx
   exact ⟨_, _, _, .int .i64 0, hh, by simp [Builtin.len_, run_underlying ht, goInt], Rep_int⟩
  ·obtain ⟨a, cap, rfl, _⟩ := hx
   exact ⟨_, _, _, _, hh, by simp [Builtin.len_, run_underlying ht, goInt], Rep_int⟩
  ·obtain ⟨a, cap, rfl, _⟩ := hx
   exact ⟨_, _, _, _, hh, by simp [Builtin.len_, run_underlying ht, goInt], Rep_int⟩
  ·exact hh.elim
 ·rename_i hk
  have ht := under_str hk
  split at hh
  ·obtain ⟨rfl, _⟩ := hx
   exact ⟨_, _, _, _, hh, by simp [Builtin.len_, run_underlying ht, goInt], Rep_int⟩
  ·exact hh.elim
 ·rename_i kt e hk
  have ht := under_map hk
  split at hh
  ·rename_i p
   obtain ⟨ma, e0, row, h0, hg, hhd⟩ := id hx
   simp only [rd, RM.wp, h0] at hh
   split at hh
   ·rename_i hgen
    split at hh
    ·rename_i kk ents hb
     obtain ⟨b, es, clk, q1, rfl, q2, q3, q4, q5⟩ := hm_place hrow hx h0 hgen hb
     refine ⟨_, _, _, .int .i64 es.size, hh, by simp [Builtin.len_, run_underlying ht, goInt, MapKept.run_getObj_map q2], ?_⟩
     have := q5.length
     rw [this, Array.length_toList]
     exact Rep_int
    ·exact hh.elim
   ·exact hh.elim
  ·exact hh.elim
 ·exact hh.elim
theorem convA_sound (hrow : ∀ r row, lget rows r = some row → RowRel w N rows Φ r row) {dst : Nat} {src t : TypeId} {x : AV} {v : Value} (hx : R N rows Φ w x v) {K : Eff → List Nat → List Nat → Prop} (hh : (convA P dst src t x).wp C d ⟨env, rows⟩ rs rr K) :
  ∃ y rs' rr' u, K { val := y } rs' rr' ∧ (convert src t v).run P w = .ok u w ∧ R N rows Φ w y u := by
 unfold convA at hh
 split at hh
 ·rename_i hok
  obtain ⟨de, i, z, g1, g2, g3, g4, g5, g6, g7, g8, g9, g10⟩ := tyOf_ok hok
  split at hh
  ·rename_i k hk
   have ht := under_int hk
   split at hh
   ·rename_i kn n
    obtain ⟨rfl, _⟩ := hx
    exact ⟨_, _, _, .int k (k.wrap n), hh, by simp [convert, run_underlying g1, run_underlying ht, Conv.intToInt], Rep_int⟩
   ·exact hh.elim
  ·rename_i hk
   have ht := under_str hk
   split at hh
   ·rename_i s
    obtain ⟨rfl, _⟩ := hx
    exact ⟨_, _, _, .string s, hh, by cases de <;> simp [convert, run_underlying g1, run_underlying ht], Rep_str⟩
   ·rename_i hne
    split at hh
    ·rename_i hsl
     simp only [Bool.and_eq_true] at hsl
     obtain ⟨e, hke⟩ : ∃ e, (tyOf P src).k = .slice e := by cases hk : (tyOf P src).k <;> simp [hk, TK.isSlice] at hsl; exact ⟨_, rfl⟩
     have hs := under_slice hke
     rw [hke] at hsl
     have hu8 : (tyOf P e).k = .int .u8 := by
      have := hsl.1
      simp only [TK.elem] at this
      unfold TK.isU8 at this
      split at this
      ·assumption
      ·cases this
     have he := under_int hu8
     obtain ⟨es, ys, cs, rs', rr', hh, hsrc, hv⟩ := elems_sound hrow hx hh
     obtain ⟨hall, hh⟩ := hh
     obtain ⟨as, rfl⟩ := ints_of hall
     rcases hv with ⟨a, cap, rfl, hnone⟩ | ⟨s, rfl, rfl⟩
     ·have hcs : cs = as.map fun n => Value.int .u8 n := by
       have : ∀ (as : List Int) (cs : List Value), Chunks w (Av N rows Φ) noH (as.map fun n => AV.sc (.int .u8 n)) es cs → cs.length = (as.map fun n => AV.sc (.int .u8 n)).length * es → (as = [] ∨ es = 1) ∧ cs = as.map fun n => Value.int .u8 n := by
        intro as
        induction as with
        | nil => intro cs _ hl; exact ⟨.inl rfl, List.eq_nil_of_length_eq_zero (by simpa using hl)⟩
        | cons n as ih =>
         rintro cs ⟨⟨u, u1, u2, u3, u4⟩, h5⟩ hl
         obtain rfl := u4.1
         have hes : es = 1 := by rw [← u1]; rfl
         subst hes
         obtain ⟨_, h6⟩ := ih (cs.drop 1) h5 (by simp at hl ⊢; omega)
         refine ⟨.inr rfl, ?_⟩
         rw [← List.take_append_drop 1 cs, u3, h6]
         rfl
       exact (this as cs hsrc.chunks hsrc.len).2
      have hes1 : as = [] ∨ es = 1 := by
       cases as with
       | nil => exact .inl rfl
       | cons n as =>
        right
        obtain ⟨⟨u, u1, u2, u3, u4⟩, h5⟩ := hsrc.chunks
        obtain rfl := u4.1
        rw [← u1]; rfl
      refine ⟨_, _, _, .string ⟨((as.map fun n => AV.sc (.int .u8 n)).map byteOf).toArray⟩, hh, ?_, Rep_str⟩
      have hm : (as.map fun n => AV.sc (.int .u8 n)).map byteOf = as.map fun n => UInt8.ofNat n.toNat := by
       rw [List.map_map]; rfl
      rw [run_convert_bytes_string w src t e a _ _ hs he ht, hm]
      cases a with
      | none =>
       have : as = [] := by simpa using hnone rfl
       subst this
       simp [Conv.bytesToString]
       rfl
      | some a =>
       have f := hsrc.first P w 1 as.length rfl (by simp) (by rcases hes1 with rfl | h; exact .inl rfl; exact .inr h.symm)
       simp only [Builtin.firstCells, Nat.mul_one] at f
       have hl : cs.take (as.length * es) = cs := List.take_of_length_le (by rw [hsrc.len]; simp)
       rw [hl, hcs] at f
       rw [List.length_map, run_bytesToString w a as.length cap as f, foldl_push_bytes]
       congr 2
       simp
     ·exact absurd rfl (hne s)
    ·exact hh.elim
  ·exact hh.elim
 ·exact hh.elim
end
end Go.AL
end
section
namespace Go.AL
section
variable {N PO : Nat → Prop} {w0 : Base} {w w' : World} {env env' : Env} {rows rows' : Rows} {ce : Nat → Value} {Φ : Nat → Loc}
variable {P : Program} {C : FuncId → List PA → CRes → Prop} {d : Bool} {rs rr : List Nat}

theorem write_elems (h : Core N PO w0 ⟨env, rows⟩ ce w Φ) {r : Nat} {row : Row} (h0 : lget rows r = some row) (ho : row.own = true) (hbox : row.box = false) {es : Nat} {xs : List AV} (hb : row.body = .cells es xs) {b ob : Nat} (hp : Φ r = some (b, ob))
  {ys : List AV} {ds : List Value} (hd : Chunks w (Av N rows Φ) noH ys es ds) (hl : ds.length = ys.length * es) (h1 : ∀ u ∈ ds, u.oneCell' = true) {k : Nat} (hk : k + ys.length ≤ xs.length) :
  ∃ w', (storeCells ⟨b, ob + k * es, none⟩ ds).run P w = .ok () w' ∧ ∀ av u, R N rows Φ w av u → Fine N PO w0 env ce (lput rows r { row with body := .cells es (xs.take k ++ (ys ++ xs.drop (k + ys.length))) }) w' av u := by
 have hrr := h.rows r row h0
 unfold RowRel at hrr
 simp only [hb, hp, hbox] at hrr
 obtain ⟨k1, k2, k3, k4⟩ := hrr
 obtain ⟨cur, e, hbc, hbs⟩ := k4 ho
 have hch := (chunks_iff hbc).1 k1
 have hle : k * es + ys.length * es ≤ xs.length * es := by rw [← Nat.add_mul]; exact Nat.mul_le_mul_right _ hk
 have hst := run_storeCells_at P b (ob + k * es) e ds 0 cur w hbc (by rw [hl]; omega) h1
 simp only [Nat.add_zero] at hst
 have hnl : (cur.toList.take (ob + k * es) ++ ds ++ cur.toList.drop (ob + k * es + ds.length)).length = cur.toList.length := splice_length (by rw [hl]; simp; omega)
 have hnew := hch.patch (by simpa using hd) hl hk
 refine ⟨w.setRow b (cur.toList.take (ob + k * es) ++ ds ++ cur.toList.drop (ob + k * es + ds.length)).toArray, hst, fun av u hav => ?_⟩
 obtain ⟨g1, g2⟩ := h.write h0 ho hp hbc { row with body := .cells es (xs.take k ++ (ys ++ xs.drop (k + ys.length))) } (Φ r) (cur.toList.take (ob + k * es) ++ ds ++ cur.toList.drop (ob + k * es + ds.length)).toArray
  (by rw [List.size_toArray, hnl]; simp) (fun _ => ⟨ob, hp⟩) (.inr ⟨rfl, rfl, by rw [hb]; rfl, rfl⟩) (by
   intro on
   have hbn := setRow_heap w b cur (cur.toList.take (ob + k * es) ++ ds ++ cur.toList.drop (ob + k * es + ds.length)).toArray e (0, 0) hbc
   unfold RowRel
   rw [upd_self]
   simp only [hp, hbox]
   rw [upd_self] at on
   simp only [hbox] at on
   refine ⟨(chunks_iff hbn).2 ?_, by simpa using k2, (fun e => by rw [ho] at e; cases e), fun _ => ⟨_, _, hbn, ?_⟩⟩
   ·show Chunks _ _ _ _ _ (List.drop ob (List.toArray _).toList)
    rw [List.toList_toArray, take_drop_splice (by simp; omega)]
    rw [List.drop_drop, ← Nat.add_assoc ob] at hnew
    exact hnew.mono fun x z hz => on.2 _ _ (by simpa using hz)
   ·rw [List.size_toArray, hnl]
    simp only [List.length_append, List.length_take, List.length_drop, Array.length_toList]
    rw [Nat.min_eq_left (by omega)]
    have : k + (ys.length + (xs.length - (k + ys.length))) = xs.length := by omega
    rw [this]
    exact hbs)
 exact ⟨_, g1, g2.1 _ _ hav⟩
theorem take_nil_drop {α : Type} (xs : List α) (o : Nat) : xs.take o ++ ([] ++ xs.drop (o + 0)) = xs := by simp
theorem hs_place (hrow : ∀ r row, lget rows r = some row → RowRel w N rows Φ r row) {p : Pl} {o n : Nat} {v : Value} (hv : Hd rows Φ w (.hs p o n) v) {row : Row} (h0 : lget rows p.r = some row) (hg : row.gen = p.g) {es : Nat} {xs : List AV} (hb : row.body = .cells es xs) (hn : n ≠ 0) :
  ∃ b ob cap, Φ p.r = some (b, ob) ∧ v = .slice (some ⟨b, ob + o * es, none⟩) n cap := by
 obtain ⟨a, cap, rfl, hc, hz, row', h0', hg', hh⟩ := hv
 rw [h0] at h0'
 obtain rfl := Option.some.inj h0'
 have hh := hh hg es xs hb
 cases hp : Φ p.r with
 | none => rw [hp] at hh; have hh : cap = 0 := hh; omega
 | some x =>
  obtain ⟨b, ob⟩ := x
  rw [hp] at hh
  rcases hh.1 with h0 | rfl
  ·omega
  ·exact ⟨b, ob, cap, rfl, rfl⟩
theorem builtinA_sound (h : Core N PO w0 ⟨env, rows⟩ ce w Φ) {dst : Nat} {b : Builtin} {ts : List TypeId} {vs : List AV} {us : List Value} (hv : RL N rows Φ w vs us) {ty : TypeId} {cn : Array Bool} {K : Eff → List Nat → List Nat → Prop}
  (hh : (builtinA P dst b ts vs).wp C d ⟨env, rows⟩ rs rr K) :
  ∃ ef rs' rr' v w', K ef rs' rr' ∧ (builtin b ts.toArray ty cn us.toArray).run P w = .ok (.value v) w' ∧ Fine N PO w0 env ce (putRows rows ef.rows) w' ef.val v := by
 unfold builtinA at hh
 split at hh
 ·split at hh
  ·rename_i s x t tx
   match us, hv with
   | [sv, xv], ⟨hs, hx, _⟩ =>
   split at hh
   ·rename_i e hk
    have ht := under_slice hk
    split at hh
    ·rename_i hc
     simp only [Bool.and_eq_true] at hc
     obtain ⟨hok, htx⟩ := hc
     obtain ⟨dx, hux, hdx⟩ : ∃ dx, P.underlying tx = some dx ∧ ((∃ e, dx = .slice e) ∨ dx = .string) := by
      cases hkx : (tyOf P tx).k <;> simp [hkx, TK.sliceOrStr] at htx
      ·exact ⟨_, under_str hkx, .inr rfl⟩
      ·exact ⟨_, under_slice hkx, .inl ⟨_, rfl⟩⟩
     obtain ⟨es, ys, cs, rs', rr', hh, hsrc, _⟩ := elems_sound h.rows hx hh
     obtain ⟨hes, hh⟩ := hh
     obtain ⟨ef, rs', rr', v, w', k1, k2, k3⟩ := appendA_sound h (ty := ty) ht hok hux hdx hs hsrc hes hh
     exact ⟨ef, rs', rr', v, w', k1, by simp [builtin, k2], k3⟩
    ·exact hh.elim
   ·exact hh.elim
  ·exact hh.elim
 ·split at hh
  ·rename_i x t
   match us, hv with
   | [xv], ⟨hx, _⟩ =>
   rw [RM.wp_bind] at hh
   obtain ⟨z, rs', rr', u, k1, k2, k3⟩ := lenA_sound h.rows hx (ty := ty) hh
   exact ⟨_, _, _, u, w, k1, by simp [builtin, k2], Φ, h, k3⟩
  ·exact hh.elim
 ·split at hh
  ·rename_i k a k' b
   match us, hv with
   | [xv, yv], ⟨⟨hx, _⟩, ⟨hy, _⟩, _⟩ =>
   subst hx hy
   split at hh
   ·rename_i hk
    subst hk
    refine ⟨_, _, _, .int k (max a b), w, hh, ?_, Φ, h, Rep_int⟩
    simp only [builtin, Builtin.max_, List.foldlM_cons, List.foldlM_nil, Builtin.max2, Sem.run_bind, Sem.run_pure, Result.andThen_ok]
    congr 3
    split <;> omega
   ·exact hh.elim
  ·exact hh.elim
 ·split at hh
  ·rename_i k a k' b
   match us, hv with
   | [xv, yv], ⟨⟨hx, _⟩, ⟨hy, _⟩, _⟩ =>
   subst hx hy
   split at hh
   ·rename_i hk
    subst hk
    refine ⟨_, _, _, .int k (min a b), w, hh, ?_, Φ, h, Rep_int⟩
    simp only [builtin, Builtin.min_, List.foldlM_cons, List.foldlM_nil, Builtin.min2, Sem.run_bind, Sem.run_pure, Result.andThen_ok]
    congr 3
    split <;> omega
   ·exact hh.elim
  ·exact hh.elim
 ·split at hh
  ·rename_i p o n t
   match us, hv with
   | [xv], ⟨hx, _⟩ =>
   split at hh
   ·rename_i e hk
    have ht := under_slice hk
    split at hh
    ·rename_i hok
     obtain ⟨ad, cap, e0, hc, hz, row, h0, hg, hhd⟩ := id hx
     simp only [rd, RM.wp, h0] at hh
     split at hh
     ·rename_i hgen
      split at hh
      ·rename_i es xs hb
       split at hh
       ·rename_i hob
        obtain ⟨⟨h1, h2⟩, hh⟩ := hh
        have h1 : o + n ≤ xs.length := h1
        by_cases hn : n = 0
        ·subst hn
         refine ⟨_, _, _, .tuple #[], w, hh, ?_, ?_⟩
         ·rw [e0]
          cases ad <;> simp [builtin, Builtin.clear_, run_underlying ht]
         ·simp only [List.replicate_zero, take_nil_drop, putRows]
          rw [show ({ row with body := .cells es xs } : Row) = row by rw [← hb]]
          exact h.same h0 trivial
        ·obtain ⟨b, ob, cap', q1, q2⟩ := hs_place h.rows hx h0 hgen hb hn
         have hes : es = (tyOf P e).size := by rcases h2 with h2 | h2; exact absurd h2 hn; exact h2
         obtain ⟨z, z1, z2, z3, z4, z5, z6⟩ := zero_rep (w := w) (A := Av N rows Φ) (H := noH) hok
         have hch := Chunks.zeros z5 z4 (zd_rep z6) n
         rw [← hes] at hch
         obtain ⟨w', r1, r2⟩ := write_elems (P := P) h h0 hob.1 hob.2 hb q1 hch (by rw [Array.length_toList, size_zeroCells, z5, hes]; simp) (fun u hu => by
          rw [Array.mem_toList_iff] at hu
          simp only [Builtin.zeroCells, Array.mem_map] at hu
          obtain ⟨j, hj, rfl⟩ := hu
          have hj : j < n * z.cells.size := by simpa using hj
          have hz0 : 0 < z.cells.size := by
           rcases Nat.eq_zero_or_pos z.cells.size with h | h
           ·rw [h] at hj; simp at hj
           ·exact h
          have hm := Nat.mod_lt j hz0
          have : z.cells[j % z.cells.size]! = z.cells[j % z.cells.size] := by simp [hm]
          rw [this]
          exact z4 _ (Array.mem_toList_iff.2 (Array.getElem_mem hm))) (k := o) (by simp; exact h1)
         refine ⟨_, _, _, .tuple #[], w', hh, ?_, ?_⟩
         ·rw [q2]
          simp only [builtin, Builtin.clear_, Sem.run_bind, run_underlying ht, Result.andThen_ok, List.getElem?_toArray, List.getElem?_cons_zero]
          cases n with
          | zero => exact absurd rfl hn
          | succ m => simp [z1, r1]
         ·have := r2 .junk (.tuple #[]) trivial
          simpa [putRows] using this
       ·exact hh.elim
      ·exact hh.elim
     ·exact hh.elim
    ·exact hh.elim
   ·exact hh.elim
  ·exact hh.elim
 ·split at hh
  ·rename_i p o n x t ts
   match us, hv with
   | [dv, xv], ⟨hd, hx, _⟩ =>
   split at hh
   ·rename_i e hk
    have ht := under_slice hk
    split at hh
    ·rename_i hok
     obtain ⟨es', ys, cs, rs', rr', hh, hsrc, _⟩ := elems_sound h.rows hx hh
     obtain ⟨ad, cap, e0, hc, hz, row, h0, hg, hhd⟩ := id hd
     simp only [rd, RM.wp, h0] at hh
     split at hh
     ·rename_i hgen
      split at hh
      ·rename_i es xs hb
       split at hh
       ·rename_i hob
        obtain ⟨⟨h1, h2⟩, hh⟩ := hh
        have h1 : o + n ≤ xs.length := h1
        have f1 := hsrc.lenOf
        by_cases hm : min ys.length n = 0
        ·have f2 := hsrc.first P w (tyOf P e).size 0 rfl (Nat.zero_le _) (.inl rfl)
         simp only [Nat.zero_mul, List.take_zero] at f2
         refine ⟨_, _, _, .int .i64 ((0 : Nat) : Int), w, hh, ?_, ?_⟩
         ·rw [e0]
          have hm' : Nat.min ys.length n = 0 := hm
          cases ad <;> simp [builtin, Builtin.copy_, run_underlying ht, f1, sizeOf_ok hok, hm', f2, storeCells, goInt]
         ·have ht : ys.take n = [] := List.eq_nil_of_length_eq_zero (by rw [List.length_take, Nat.min_comm]; exact hm)
          simp only [hm, ht, take_nil_drop, putRows]
          rw [show ({ row with body := .cells es xs } : Row) = row by rw [← hb]]
          exact h.same h0 Rep_int
        ·have hn : n ≠ 0 := by omega
         obtain ⟨b, ob, cap', q1, q2⟩ := hs_place h.rows hd h0 hgen hb hn
         have hes : es = (tyOf P e).size ∧ es' = es := by
          rcases h2 with h2 | h2 | h2
          ·rw [h2] at hm; simp at hm
          ·exact absurd h2 hn
          ·exact h2
         obtain ⟨hes, rfl⟩ := hes
         have hlm : (ys.take n).length = min ys.length n := by rw [List.length_take, Nat.min_comm]
         have f2 := hsrc.first P w (tyOf P e).size (min ys.length n) rfl (Nat.min_le_left _ _) (.inr hes.symm)
         obtain ⟨w', r1, r2⟩ := write_elems (P := P) h h0 hob.1 hob.2 hb q1 (ys := ys.take n) (ds := cs.take (min ys.length n * es')) ((hsrc.chunks.take n).cut (by rw [hlm]; exact Nat.le_refl _)) (by
           rw [List.length_take, hsrc.len, hlm]
           exact Nat.min_eq_left (Nat.mul_le_mul_right _ (Nat.min_le_left _ _))) (fun u hu => hsrc.one u (List.mem_of_mem_take hu)) (k := o) (by rw [hlm]; omega)
         refine ⟨_, _, _, .int .i64 ((min ys.length n : Nat) : Int), w', hh, ?_, ?_⟩
         ·rw [q2]
          have f2' : (Builtin.firstCells (tyOf P e).size (Nat.min ys.length n) xv).run P w = .ok (cs.take (min ys.length n * es')).toArray w := f2
          simp only [builtin, Builtin.copy_, Sem.run_bind, run_underlying ht, Result.andThen_ok, List.getElem?_toArray, List.getElem?_cons_zero, List.getElem?_cons_succ, f1, sizeOf_ok hok, f2', r1, Sem.run_pure]
          rfl
         ·have := r2 (int .i64 ((min ys.length n : Nat) : Int)) _ Rep_int
          rw [hlm] at this
          simpa [putRows] using this
       ·exact hh.elim
      ·exact hh.elim
     ·exact hh.elim
    ·exact hh.elim
   ·exact hh.elim
  ·exact hh.elim
 ·exact hh.elim

def Did (o : Result Next) (v : Value) (w' : World) : Prop := o = .ok (.value v) w' ∨ (o = .ok .skip w' ∧ v = undef)
theorem astep_sound {sm : FuncId → Nat → Bool} {a : Act} (h : Core N PO w0 ⟨env, rows⟩ a.val w Φ) (o : Oper) (hc : ∀ c, o.op = .call c → ∃ b, c.callee = .builtin b) {K : Eff → List Nat → List Nat → Prop} (hh : (astep sm P o).wp C d ⟨env, rows⟩ rs rr K) :
  ∃ ef rs' rr' v w', K ef rs' rr' ∧ Did ((execOp a.eval o).run P w) v w' ∧ Fine N PO w0 env a.val (putRows rows ef.rows) w' ef.val v := by
 have plain : ∀ {y : AV} {u : Value} {rs' rr' : List Nat}, K { val := y } rs' rr' → (execOp a.eval o).run P w = .ok (.value u) w → R N rows Φ w y u → ∃ ef rs' rr' v w', K ef rs' rr' ∧ Did ((execOp a.eval o).run P w) v w' ∧ Fine N PO w0 env a.val (putRows rows ef.rows) w' ef.val v :=
  fun hK hr hy => ⟨_, _, _, _, w, hK, .inl hr, Φ, h, hy⟩
 unfold astep at hh
 split at hh
 ·rename_i x he
  rw [wp_val] at hh
  obtain ⟨y, rs', hh, hy⟩ := opd_sound h hh
  exact plain hh (by simp [execOp, he]) hy
 ·rename_i x he
  unfold assignA at hh
  rw [RM.wp_bind] at hh
  obtain ⟨y, rs', hh, hy⟩ := opd_sound h hh
  have hrun : (execOp a.eval o).run P w = .ok (.value (a.eval x)) w := by simp [execOp, he]
  split at hh
  ·split at hh
   ·simp only [mk, RM.wp] at hh
    obtain ⟨ad, e⟩ := hy
    refine ⟨_, _, _, _, w, hh, .inl hrun, ?_⟩
    rw [e]
    exact h.newNil _ _ _ fresh_gen
   ·exact plain hh hrun hy
  ·exact plain hh hrun hy
 ·rename_i c x y he
  rw [wp_val, RM.wp_bind] at hh
  obtain ⟨cv, rs1, hh, h1⟩ := opd_sound h hh
  rw [RM.wp_bind] at hh
  obtain ⟨xv, rs2, hh, h2⟩ := opd_sound h hh
  rw [RM.wp_bind] at hh
  obtain ⟨yv, rs3, hh, h3⟩ := opd_sound h hh
  unfold pickA at hh
  split at hh
  ·rename_i b _ _
   obtain ⟨e, _⟩ := h1
   cases b with
   | true => exact plain (u := a.eval x) hh (by simp [execOp, he, e, asBool]) h2
   | false => exact plain (u := a.eval y) hh (by simp [execOp, he, e, asBool]) h3
  ·exact hh.elim
 ·rename_i t he
  have hh0 := hh
  unfold boxA at hh0
  split at hh0
  ·rename_i hok
   obtain ⟨z, z1, z2, _⟩ := zero_rep (w := w) (A := Av N rows Φ) (H := Hd rows Φ w) hok
   obtain ⟨ef, rs', rr', k1, k2⟩ := boxA_sound h z2 hh
   exact ⟨ef, rs', rr', _, _, k1, .inl (by simp [execOp, he, Instr.alloc, z1, newVar, newRow]), k2 _ (pushed_alloc w _)⟩
  ·exact hh0.elim
 ·rename_i t x he
  rw [RM.wp_bind] at hh
  obtain ⟨xv, rs1, hh, h1⟩ := opd_sound h hh
  obtain ⟨ef, rs', rr', k1, k2⟩ := boxA_sound h h1 hh
  exact ⟨ef, rs', rr', _, _, k1, .inl (by simp [execOp, he, Instr.box, newVar, newRow]), k2 _ (pushed_alloc w _)⟩
 ·rename_i t ps he
  rw [wp_val, RM.wp_bind] at hh
  obtain ⟨qs, rs1, hh, h1⟩ := opdParts_sound h hh
  obtain ⟨y, rs', rr', u, k1, k2, k3⟩ := buildA_sound (P := P) h1 hh
  refine plain k1 ?_ k3
  have e : (ps.map fun (i, x) => (i, a.eval x)) = (ps.toList.map fun p => (p.1, a.eval p.2)).toArray := by apply Array.ext'; simp
  simp only [execOp, he, e, Sem.run_bind, k2, Result.andThen_ok, Sem.run_pure]
 ·rename_i t n ps he
  rw [RM.wp_bind] at hh
  obtain ⟨qs, rs1, hh, h1⟩ := opdParts_sound h hh
  obtain ⟨ef, rs', rr', u, w', k1, k2, k3⟩ := buildSliceA_sound (P := P) h h1 hh
  refine ⟨ef, rs', rr', u, w', k1, .inl ?_, k3⟩
  have e : (ps.map fun (i, x) => (i, a.eval x)) = (ps.toList.map fun p => (p.1, a.eval p.2)).toArray := by apply Array.ext'; simp
  simp only [execOp, he, e, Sem.run_bind, k2, Result.andThen_ok, Sem.run_pure]
 ·rename_i t x he
  rw [wp_val, RM.wp_bind] at hh
  obtain ⟨xv, rs1, hh, h1⟩ := opd_sound h hh
  obtain ⟨y, rs', rr', u, ad, k1, k2, k3, k4⟩ := loadA_sound (P := P) h.rows h1 hh
  exact plain k1 (by simp [execOp, he, k2, Instr.loadAt, Instr.sureAddr, k3]) k4
 ·rename_i t x y he
  rw [RM.wp_bind] at hh
  obtain ⟨xv, rs1, hh, h1⟩ := opd_sound h hh
  rw [RM.wp_bind] at hh
  obtain ⟨yv, rs2, hh, h2⟩ := opd_sound h hh
  obtain ⟨ef, rs', rr', w', k1, k2, k3⟩ := storeA_sound (P := P) h h1 h2 hh
  exact ⟨ef, rs', rr', undef, w', k1, .inr ⟨by simp [execOp, he, k2], rfl⟩, k3 _⟩
 ·rename_i x he
  rw [wp_val, RM.wp_bind] at hh
  obtain ⟨xv, rs1, hh, h1⟩ := opd_sound h hh
  unfold nilCheckA at hh
  split at hh
  ·obtain ⟨ad, e, _⟩ := id h1
   exact plain (u := a.eval x) hh (by simp [execOp, he, e]) h1
  ·obtain ⟨b, ob, e, _⟩ := id h1
   exact plain (u := a.eval x) hh (by simp [execOp, he, e]) h1
  ·obtain ⟨e, _⟩ := id h1
   exact plain (u := a.eval x) hh (by simp [execOp, he, e]) h1
  ·exact hh.elim
 ·rename_i op t x y p he
  rw [wp_val, RM.wp_bind] at hh
  obtain ⟨xv, rs1, hh, h1⟩ := opd_sound h hh
  rw [RM.wp_bind] at hh
  obtain ⟨yv, rs2, hh, h2⟩ := opd_sound h hh
  obtain ⟨z, rs', rr', u, k1, k2, k3, k4⟩ := binOpA_sound (P := P) (xo := x) h1 h2 (fun hn => by
   unfold isNil at hn
   split at hn
   ·rfl
   ·cases hn) hh
  exact plain k1 (by simp [execOp, he, k2, k3]) k4
 ·rename_i op t x he
  rw [wp_val, RM.wp_bind] at hh
  obtain ⟨xv, rs1, hh, h1⟩ := opd_sound h hh
  obtain ⟨z, u, k1, k2, k3⟩ := unOpA_sound (P := P) h1 hh
  exact plain k1 (by simp [execOp, he, k2]) k3
 ·rename_i src t x he
  rw [RM.wp_bind] at hh
  obtain ⟨xv, rs1, hh, h1⟩ := opd_sound h hh
  obtain ⟨z, rs', rr', u, k1, k2, k3⟩ := convA_sound (P := P) h.rows h1 hh
  exact plain k1 (by simp [execOp, he, k2]) k3
 ·rename_i fn fs cs he
  rw [RM.wp_bind] at hh
  obtain ⟨fv, rs1, hh, h1⟩ := opds_sound h hh
  rw [RM.wp_bind] at hh
  obtain ⟨cv, rs2, hh, h2⟩ := opds_sound h hh
  have e1 : fs.map a.eval = (fs.toList.map a.eval).toArray := by apply Array.ext'; simp
  have e2 : cs.map a.eval = (cs.toList.map a.eval).toArray := by apply Array.ext'; simp
  unfold makeFuncA at hh
  split at hh
  ·have l1 := h1.length
   have l2 := h2.length
   simp only [List.length_nil] at l1 l2
   have f1 := List.eq_nil_of_length_eq_zero l1.symm
   have f2 := List.eq_nil_of_length_eq_zero l2.symm
   exact plain hh (by simp only [execOp, he, e1, e2, f1, f2, Instr.makeFunc, Sem.run_bind, Sem.run_pure, Result.andThen_ok]) ⟨rfl, rfl⟩
  ·rename_i f v _ _
   have l2 := h2.length
   simp only [List.length_nil] at l2
   have f2 := List.eq_nil_of_length_eq_zero l2.symm
   obtain ⟨u, f1, hu⟩ : ∃ u, fs.toList.map a.eval = [u] ∧ R N rows Φ w (.agg [.sc v]) u := by
    have l1 := h1.length
    match hq : fs.toList.map a.eval, l1 with
    | [u], _ => rw [hq] at h1; exact ⟨u, rfl, h1.1⟩
   obtain ⟨vs, rfl, _, hvs⟩ := hu
   obtain ⟨ad, hvs'⟩ : ∃ ad, vs = #[ad] ∧ ad = v := by
    have l1 := hvs.length
    match hq : vs.toList, l1 with
    | [u], _ =>
     rw [hq] at hvs
     exact ⟨u, by apply Array.ext'; rw [hq], hvs.1.1⟩
   obtain ⟨rfl, rfl⟩ := hvs'
   exact plain hh (by simp only [execOp, he, e1, e2, f1, f2, Instr.makeFunc, Sem.run_bind, Sem.run_pure, Result.andThen_ok]) ⟨rfl, rfl⟩
  ·have l1 := h1.length
   simp only [List.length_nil] at l1
   have f1 := List.eq_nil_of_length_eq_zero l1.symm
   rw [RM.wp_bind] at hh
   obtain ⟨ys, wr, rs', rr', hh, k1, k2⟩ := frzL_sound h.rows h2 hh
   have hfz := k1.put (Frz.refl rows)
   have hcore := hfz.core h
   refine ⟨_, _, _, .func (.func _) #[] (cs.toList.map a.eval).toArray, w, hh, .inl (by simp only [execOp, he, e1, e2, f1, Instr.makeFunc, Sem.run_bind, Sem.run_pure, Result.andThen_ok]), Φ, hcore, _, rfl, ?_⟩
   exact k2 _ hfz (fun r row hm => k1.get (.inl hm)) hcore.rows
  ·exact hh.elim
 ·rename_i t he
  obtain ⟨ef, rs', rr', u, w', k1, k2, k3⟩ := makeMapA_sound (P := P) h hh
  exact ⟨ef, rs', rr', u, w', k1, .inl (by simp [execOp, he, k2]), k3⟩
 ·rename_i t l c he
  rw [RM.wp_bind] at hh
  obtain ⟨lv, rs1, hh, h1⟩ := opd_sound h hh
  rw [RM.wp_bind] at hh
  obtain ⟨cv, rs2, hh, h2⟩ := opd_sound h hh
  rw [RM.wp_bind] at hh
  obtain ⟨kl, ln, hh, e1⟩ := natOf_sound h1 hh
  rw [RM.wp_bind] at hh
  obtain ⟨kc, cn, hh, e2⟩ := natOf_sound h2 hh
  obtain ⟨ef, rs', rr', u, w', k1, k2, k3⟩ := makeSliceA_sound (P := P) h (kl := kl) (kc := kc) hh
  exact ⟨ef, rs', rr', u, w', k1, .inl (by simp [execOp, he, e1, e2, k2]), k3⟩
 ·rename_i t x lo hi mx he
  rw [RM.wp_bind] at hh
  obtain ⟨xv, rs1, hh, h1⟩ := opd_sound h hh
  rw [RM.wp_bind] at hh
  obtain ⟨l, rs2, hh, h2⟩ := optNat_sound h hh
  rw [RM.wp_bind] at hh
  obtain ⟨m, rs3, hh, h3⟩ := optNat_sound h hh
  rw [RM.wp_bind] at hh
  obtain ⟨q, rs4, hh, h4⟩ := optNat_sound h hh
  obtain ⟨ef, rs', rr', u, k1, k2, k3⟩ := sliceA_sound (P := P) h h1 h2 h3 h4 hh
  exact ⟨ef, rs', rr', u, w, k1, .inl (by simp [execOp, he, k2]), k3⟩
 ·rename_i t x f he
  rw [wp_val, RM.wp_bind] at hh
  obtain ⟨xv, rs1, hh, h1⟩ := opd_sound h hh
  obtain ⟨z, rs', rr', u, k1, k2, k3⟩ := fieldAddrA_sound (P := P) h h1 hh
  exact plain k1 (by simp [execOp, he, k2]) k3
 ·rename_i t x f he
  rw [wp_val, RM.wp_bind] at hh
  obtain ⟨xv, rs1, hh, h1⟩ := opd_sound h hh
  obtain ⟨z, rs', rr', u, k1, k2, k3⟩ := fieldA_sound (P := P) h1 hh
  exact plain k1 (by simp [execOp, he, k2]) k3
 ·rename_i t x i he
  rw [wp_val, RM.wp_bind] at hh
  obtain ⟨xv, rs1, hh, h1⟩ := opd_sound h hh
  rw [RM.wp_bind] at hh
  obtain ⟨iv, rs2, hh, h2⟩ := opd_sound h hh
  rw [RM.wp_bind] at hh
  obtain ⟨ki, n, hh, e1⟩ := natOf_sound h2 hh
  obtain ⟨z, rs', rr', u, k1, k2, k3⟩ := indexAddrA_sound (P := P) h h1 (k := ki) hh
  exact plain k1 (by simp [execOp, he, e1, k2]) k3
 ·rename_i t x i he
  rw [wp_val, RM.wp_bind] at hh
  obtain ⟨xv, rs1, hh, h1⟩ := opd_sound h hh
  rw [RM.wp_bind] at hh
  obtain ⟨iv, rs2, hh, h2⟩ := opd_sound h hh
  rw [RM.wp_bind] at hh
  obtain ⟨ki, n, hh, e1⟩ := natOf_sound h2 hh
  obtain ⟨z, rs', rr', u, k1, k2, k3⟩ := indexA_sound (P := P) h1 (k := ki) hh
  exact plain k1 (by simp [execOp, he, e1, k2]) k3
 ·rename_i t m k ok he
  rw [wp_val, RM.wp_bind] at hh
  obtain ⟨mv, rs1, hh, h1⟩ := opd_sound h hh
  rw [RM.wp_bind] at hh
  obtain ⟨kv, rs2, hh, h2⟩ := opd_sound h hh
  obtain ⟨z, rs', rr', u, k1, k2, k3⟩ := lookupA_sound (P := P) h h1 h2 hh
  exact plain k1 (by simp [execOp, he, k2]) k3
 ·rename_i t m k x he
  rw [RM.wp_bind] at hh
  obtain ⟨mv, rs1, hh, h1⟩ := opd_sound h hh
  rw [RM.wp_bind] at hh
  obtain ⟨kv, rs2, hh, h2⟩ := opd_sound h hh
  rw [RM.wp_bind] at hh
  obtain ⟨xv, rs3, hh, h3⟩ := opd_sound h hh
  obtain ⟨ef, rs', rr', w', k1, k2, k3⟩ := mapUpdateA_sound (P := P) h h1 h2 h3 hh
  exact ⟨ef, rs', rr', undef, w', k1, .inr ⟨by simp [execOp, he, k2], rfl⟩, k3 _⟩
 ·rename_i x i he
  rw [wp_val, RM.wp_bind] at hh
  obtain ⟨xv, rs1, hh, h1⟩ := opd_sound h hh
  unfold extractA at hh
  split at hh
  ·rename_i cs
   split at hh
   ·rename_i v hv
    obtain ⟨vs, e, hvs⟩ := h1
    obtain ⟨u, k1, k2⟩ := hvs.at i v hv
    have k1 : vs[i]? = some u := by simpa using k1
    exact plain hh (by simp [execOp, he, e, Instr.extract, k1]) k2
   ·exact hh.elim
  ·exact hh.elim
 ·rename_i t x he
  rw [RM.wp_bind] at hh
  obtain ⟨xv, rs1, hh, h1⟩ := opd_sound h hh
  obtain ⟨ef, rs', rr', u, w', k1, k2, k3⟩ := rangeA_sound (P := P) h h1 hh
  exact ⟨ef, rs', rr', u, w', k1, .inl (by simp [execOp, he, k2]), k3⟩
 ·rename_i x he
  rw [wp_val, RM.wp_bind] at hh
  obtain ⟨xv, rs1, hh, h1⟩ := opd_sound h hh
  obtain ⟨y, u, k1, k2, k3⟩ := nextA_sound (P := P) h1 o.type hh
  exact plain k1 (by simp [execOp, he, k2]) k3
 ·rename_i c he
  obtain ⟨b, hb⟩ := hc c he
  unfold callOpA at hh
  rw [hb] at hh
  simp only at hh
  rw [RM.wp_bind] at hh
  obtain ⟨vs, rs1, hh, h1⟩ := opds_sound h hh
  obtain ⟨ef, rs', rr', v, w', k1, k2, k3⟩ := builtinA_sound (P := P) h h1 (ty := o.type) (cn := c.args.map fun | .const _ => true | _ => false) hh
  refine ⟨ef, rs', rr', v, w', k1, .inl ?_, k3⟩
  have e1 : c.args.map a.eval = (c.args.toList.map a.eval).toArray := by apply Array.ext'; simp
  simp only [execOp, he, resolve, hb, invoke, Sem.run_bind, Sem.run_pure, Result.andThen_ok, e1]
  exact k2
 ·exact hh.elim
end
end Go.AL
end
section
namespace Go.AL
def M : Nat := 10000000
section
variable (ex : Prop) (ρ τ : Rows) (kap : Nat → Option Pl)
def Img (r : Nat) : Prop := ∃ k row' q, lget τ k = some row' ∧ kap k = some q ∧ q.r = r
def CellTo (kk : Nat) (c c' : AV) : Prop :=
 (cellOut ρ c c' ∧ ∀ p o n es ys, c = .hs p o n → c' = .sl es ys → (∃ row, lget ρ p.r = some row ∧ row.own = false) ∨ (ex ∧ ¬ Img τ kap p.r)) ∨
 (∃ q n, c = .hs q 0 n ∧ c' = .hs ⟨kk, 0⟩ 0 n ∧ (lget τ kk).isSome = true ∧ kap kk = some q) ∨
 (∃ q, c = .hm q ∧ c' = .hm ⟨kk, 0⟩ ∧ (lget τ kk).isSome = true ∧ kap kk = some q)
def CellsTo (k : Nat) : Nat → List AV → List AV → Prop
 | _, [], [] => True
 | j, c :: cs, c' :: cs' => CellTo ex ρ τ kap (nestKey k j) c c' ∧ CellsTo k (j + 1) cs cs'
 | _, _, _ => False
def BodyTo (k : Nat) (box : Bool) (b b' : Body) : Prop :=
 match box, b, b' with
 | true, .cells es [x], .cells es' [x'] => es = es' ∧ x.isAgg = x'.isAgg ∧ CellsTo ex ρ τ kap k 0 (cellsOf x) (cellsOf x')
 | false, .cells es xs, .cells es' us => es = es' ∧ us = xs.take us.length
 | false, .map kk es, .map kk' es' => kk = kk' ∧ es = es'
 | _, _, _ => False
structure Packed : Prop where
 T : ∀ k row', lget τ k = some row' → row'.gen = 0 ∧ row'.own = true ∧ ((kap k = none ∧ row'.box = false ∧ ∃ es, row'.body = .cells es []) ∨
  ∃ q row, kap k = some q ∧ lget ρ q.r = some row ∧ row.gen = q.g ∧ row.own = true ∧ row.box = row'.box ∧ BodyTo ex ρ τ kap k row.box row.body row'.body)
 inj : ∀ k k' q q', (lget τ k).isSome = true → (lget τ k').isSome = true → kap k = some q → kap k' = some q' → q.r = q'.r → k = k'
def locTo (Φ : Nat → Loc) (k : Nat) : Loc :=
 match lget τ k, kap k with
 | some _, some q => Φ q.r
 | _, _ => none
end
section
variable {N PO N' : Nat → Prop} {w0 : Base} {w : World} {env : Env} {ρ τ : Rows} {ce : Nat → Value} {Φ : Nat → Loc} {kap : Nat → Option Pl} {ex : Prop}
variable (h : Core N PO w0 ⟨env, ρ⟩ ce w Φ) (hp : Packed ex ρ τ kap) (hN : ∀ b, N' b → Av N ρ Φ b)
 (hmine : ∀ r row b o, lget ρ r = some row → row.own = true → Φ r = some (b, o) → Img τ kap r → ¬ N' b) (hex : ex → ∀ b, N' b → N b)

theorem locTo_some {k b o : Nat} (hk : locTo τ kap Φ k = some (b, o)) : ∃ row' q, lget τ k = some row' ∧ kap k = some q ∧ Φ q.r = some (b, o) := by
 unfold locTo at hk
 split at hk
 ·rename_i row' q h1 h2
  exact ⟨row', q, h1, h2, hk⟩
 ·cases hk
theorem locTo_eq {k : Nat} {q : Pl} (h1 : (lget τ k).isSome = true) (h2 : kap k = some q) : locTo τ kap Φ k = Φ q.r := by
 obtain ⟨row', h1⟩ := Option.isSome_iff_exists.1 h1
 simp [locTo, h1, h2]
include h hp hN in
theorem pack_av {b : Nat} (hb : Av N' τ (locTo τ kap Φ) b) : Av N ρ Φ b := by
 rcases hb with hb | ⟨k, row', o, h1, h2, h3⟩
 ·exact hN b hb
 ·obtain ⟨row1, q, g1, g2, g3⟩ := locTo_some h3
  rcases (hp.T k row' h1).2.2 with ⟨e, _⟩ | ⟨q', row, k1, k2, k3, k4, _⟩
  ·rw [e] at g2; cases g2
  ·rw [k1] at g2
   obtain rfl := Option.some.inj g2
   exact .inr ⟨q'.r, row, o, k2, k4, g3⟩
include hp in
theorem pack_hs {k n : Nat} {q : Pl} {v : Value} (h1 : (lget τ k).isSome = true) (h2 : kap k = some q) (hv : Hd ρ Φ w (.hs q 0 n) v) : Hd τ (locTo τ kap Φ) w (.hs ⟨k, 0⟩ 0 n) v := by
 obtain ⟨a, cap, rfl, hc, hz, row, h0, hg, hh⟩ := hv
 obtain ⟨row', h1'⟩ := Option.isSome_iff_exists.1 h1
 obtain ⟨t1, t2, t3⟩ := hp.T k row' h1'
 refine ⟨a, cap, rfl, hc, hz, row', h1', Nat.zero_le _, fun _ es us hb => ?_⟩
 rw [locTo_eq h1 h2]
 rcases t3 with ⟨e, _⟩ | ⟨q', row2, k1, k2, k3, k4, k5, k6⟩
 ·rw [e] at h2; cases h2
 ·rw [k1] at h2
  obtain rfl := Option.some.inj h2
  rw [k2] at h0
  obtain rfl := Option.some.inj h0
  have hbody : ∃ xs, row2.body = .cells es xs := by
   unfold BodyTo at k6
   rw [hb] at k6
   cases hb2 : row2.body with
   | map _ _ => rw [hb2] at k6; cases hx : row2.box <;> rw [hx] at k6 <;> exact k6.elim
   | cells es' xs =>
    rw [hb2] at k6
    split at k6
    ·rename_i e1 e2; simp at e1 e2; exact ⟨xs, by rw [e1.1, k6.1, ← e2.1]⟩
    ·rename_i e1 e2; simp at e1 e2; exact ⟨xs, by rw [e1.1, k6.1, ← e2.1]⟩
    ·rename_i e1 e2; cases e1
    ·exact k6.elim
  obtain ⟨xs, hxs⟩ := hbody
  have := hh k3 es xs hxs
  cases hΦ : Φ q'.r with
  | none => rw [hΦ] at this; exact this
  | some x =>
   obtain ⟨b, ob⟩ := x
   rw [hΦ] at this
   exact ⟨this.1, fun _ => this.2 k4⟩
include hp in
theorem pack_hp {k : Nat} {q : Pl} {v : Value} (h1 : (lget τ k).isSome = true) (h2 : kap k = some q) (hv : Hd ρ Φ w (.hp q 0 0) v) : Hd τ (locTo τ kap Φ) w (.hp ⟨k, 0⟩ 0 0) v := by
 obtain ⟨a, rfl, row, h0, hg, hh⟩ := hv
 obtain ⟨row', h1'⟩ := Option.isSome_iff_exists.1 h1
 obtain ⟨t1, t2, t3⟩ := hp.T k row' h1'
 refine ⟨a, rfl, row', h1', Nat.zero_le _, fun _ es us hb => ?_⟩
 rw [locTo_eq h1 h2]
 rcases t3 with ⟨e, _⟩ | ⟨q', row2, k1, k2, k3, k4, k5, k6⟩
 ·rw [e] at h2; cases h2
 ·rw [k1] at h2
  obtain rfl := Option.some.inj h2
  rw [k2] at h0
  obtain rfl := Option.some.inj h0
  have hbody : ∃ es' xs, row2.body = .cells es' xs := by
   unfold BodyTo at k6
   rw [hb] at k6
   cases hb2 : row2.body with
   | map _ _ => rw [hb2] at k6; cases hx : row2.box <;> rw [hx] at k6 <;> exact k6.elim
   | cells es' xs => exact ⟨es', xs, rfl⟩
  obtain ⟨es', xs, hxs⟩ := hbody
  obtain ⟨b, ob, g1, g2⟩ := hh k3 es' xs hxs
  exact ⟨b, ob, g1, by simpa using g2⟩
include hp in
theorem pack_hm {k : Nat} {q : Pl} {v : Value} (h1 : (lget τ k).isSome = true) (h2 : kap k = some q) (hv : Hd ρ Φ w (.hm q) v) : Hd τ (locTo τ kap Φ) w (.hm ⟨k, 0⟩) v := by
 obtain ⟨m, rfl, row, h0, hg, hh⟩ := hv
 obtain ⟨row', h1'⟩ := Option.isSome_iff_exists.1 h1
 obtain ⟨t1, t2, t3⟩ := hp.T k row' h1'
 refine ⟨m, rfl, row', h1', Nat.zero_le _, fun _ => ?_⟩
 rw [locTo_eq h1 h2]
 rcases t3 with ⟨e, _⟩ | ⟨q', row2, k1, k2, k3, k4, k5, k6⟩
 ·rw [e] at h2; cases h2
 ·rw [k1] at h2
  obtain rfl := Option.some.inj h2
  rw [k2] at h0
  obtain rfl := Option.some.inj h0
  exact hh k3
include h hp hN hmine hex
theorem pack_data {p : Pl} {o n es : Nat} {ys : List AV} {v : Value} (hv : Hd ρ Φ w (.hs p o n) v) (ho : hsOut ρ p o n es ys) (hd : (∃ row, lget ρ p.r = some row ∧ row.own = false) ∨ (ex ∧ ¬ Img τ kap p.r)) :
  Rep w (Av N' τ (locTo τ kap Φ)) noH (.sl es ys) v := by
 unfold hsOut at ho
 split at ho
 ·rename_i row0 g own es' xs h0
  obtain ⟨rfl, hlen, rfl, rfl⟩ := ho
  obtain ⟨a, cap, rfl, hc, hz, row, h0', hg, hh⟩ := hv
  rw [h0] at h0'
  obtain rfl := Option.some.inj h0'
  have hh := hh rfl _ xs rfl
  have hrr := h.rows p.r _ h0
  unfold RowRel at hrr
  simp only at hrr
  have hl := take_drop_length hlen
  refine ⟨a, cap, by rw [hl], by rw [hl]; exact hc, ?_⟩
  cases hp' : Φ p.r with
  | none => rw [hp'] at hrr; exact .inl (by rw [hrr.1]; simp)
  | some x =>
   obtain ⟨b, ob⟩ := x
   rw [hp'] at hrr hh
   obtain ⟨k1, k2, k3, k4⟩ := hrr
   rcases hh.1 with hc0 | rfl
   ·exact .inl (List.eq_nil_of_length_eq_zero (by rw [hl]; omega))
   ·refine .inr ⟨b, ob + o * es', rfl, ?_, k2, ?_⟩
    ·intro hav
     cases own with
     | false => exact k3 rfl (pack_av h hp hN hav)
     | true =>
      have hd : ex ∧ ¬ Img τ kap p.r := by
       rcases hd with ⟨row, e1, e2⟩ | hd
       ·rw [h0] at e1; obtain rfl := Option.some.inj e1; cases e2
       ·exact hd
      rcases hav with hav | ⟨kt, rowt, ot, t1, t2, t3⟩
      ·exact (h.mine p.r _ b ob h0 rfl hp').1 (hex hd.1 b hav)
      ·obtain ⟨row1, q, g1, g2, g3⟩ := locTo_some t3
       rcases (hp.T kt rowt t1).2.2 with ⟨e, _⟩ | ⟨q', row, k1', k2', k3', k4', _⟩
       ·rw [e] at g2; cases g2
       ·rw [k1'] at g2
        obtain rfl := Option.some.inj g2
        have : p.r = q'.r := h.inj _ _ _ _ b _ _ h0 k2' rfl k4' hp' g3
        exact hd.2 ⟨kt, rowt, q', t1, k1', this.symm⟩
    ·refine RepRow.mono (fun b hb _ => ⟨rfl, fun hb' => hb (pack_av h hp hN hb')⟩) (Nat.le_refl _) (fun _ _ h => h) rfl ((?_ : RepRow w (Av N ρ Φ) noH xs b ob es').drop o |>.take n)
     simpa using k1
 ·exact ho.elim
theorem pack_rep {x : AV} {v : Value} (hx : Rep w (Av N ρ Φ) noH x v) {H : AV → Value → Prop} : Rep w (Av N' τ (locTo τ kap Φ)) H x v :=
 Rep.mono (fun b hb _ => ⟨rfl, fun hb' => hb (pack_av h hp hN hb')⟩) (Nat.le_refl _) (fun _ _ h => h.elim) hx
theorem pack_out {c c' : AV} {v : Value} (hv : R N ρ Φ w c v) (ho : cellOut ρ c c') (hd : ∀ p o n es ys, c = .hs p o n → c' = .sl es ys → (∃ row, lget ρ p.r = some row ∧ row.own = false) ∨ (ex ∧ ¬ Img τ kap p.r)) :
  R N' τ (locTo τ kap Φ) w c' v := by
 have toN : ∀ {c : AV}, (∀ p o n, c ≠ .hs p o n) → (∀ p i j, c ≠ .hp p i j) → (∀ p, c ≠ .hm p) → (∀ cs, c ≠ .agg cs) → (∀ cs, c ≠ .tup cs) → Rep w (Av N ρ Φ) (Hd ρ Φ w) c v → Rep w (Av N ρ Φ) noH c v := by
  intro c h1 h2 h3 h4 h5 hc
  cases c with
  | hs p o n => exact absurd rfl (h1 _ _ _)
  | hp p i j => exact absurd rfl (h2 _ _ _)
  | hm p => exact absurd rfl (h3 _)
  | agg cs => exact absurd rfl (h4 _)
  | tup cs => exact absurd rfl (h5 _)
  | _ => simpa only [Rep] using hc
 unfold cellOut at ho
 split at ho
 ·exact trivial
 ·subst ho
  obtain ⟨a, rfl⟩ := hv
  exact ⟨a, 0, rfl, Nat.le_refl _, .inl rfl⟩
 ·exact hv
 ·subst ho; exact hv
 ·obtain ⟨rfl, rfl⟩ := ho
  exact pack_rep h hp hN hmine hex (toN (by simp) (by simp) (by simp) (by simp) (by simp) hv)
 ·obtain ⟨rfl, rfl, rfl, rfl⟩ := ho
  exact pack_rep h hp hN hmine hex (toN (by simp) (by simp) (by simp) (by simp) (by simp) hv)
 ·obtain ⟨rfl, rfl⟩ := ho
  exact pack_rep h hp hN hmine hex (toN (by simp) (by simp) (by simp) (by simp) (by simp) hv)
 ·exact (pack_data h hp hN hmine hex hv ho (hd _ _ _ _ _ rfl rfl)).ofNoH
 ·exact ho.elim
theorem pack_cell {kk : Nat} {c c' : AV} {v : Value} (hv : R N ρ Φ w c v) (hc : CellTo ex ρ τ kap kk c c') : R N' τ (locTo τ kap Φ) w c' v := by
 rcases hc with ⟨h1, h2⟩ | ⟨q, n, rfl, rfl, h1, h2⟩ | ⟨q, rfl, rfl, h1, h2⟩
 ·exact pack_out h hp hN hmine hex hv h1 h2
 ·exact pack_hs hp h1 h2 hv
 ·exact pack_hm (w := w) hp h1 h2 hv
theorem pack_cells {k : Nat} : ∀ {j : Nat} {cs cs' : List AV} {vs : List Value}, RL N ρ Φ w cs vs → CellsTo ex ρ τ kap k j cs cs' → RL N' τ (locTo τ kap Φ) w cs' vs
 | _, [], [], [], _, _ => trivial
 | j, c :: cs, c' :: cs', v :: vs, hr, hc => ⟨pack_cell h hp hN hmine hex hr.1 hc.1, pack_cells hr.2 hc.2⟩
 | _, [], _ :: _, _, _, hc => hc.elim
 | _, _ :: _, [], _, _, hc => hc.elim
 | _, [], [], _ :: _, hr, _ => hr.elim
 | _, _ :: _, _ :: _, [], hr, _ => hr.elim
theorem pack_row {k : Nat} {row' : Row} (hk : lget τ k = some row') : RowRel w N' τ (locTo τ kap Φ) k row' := by
 obtain ⟨t1, t2, t3⟩ := hp.T k row' hk
 unfold RowRel
 rcases t3 with ⟨e, e1, es, e2⟩ | ⟨q, row, k1, k2, k3, k4, k5, k6⟩
 ·have hl : locTo τ kap Φ k = none := by unfold locTo; rw [hk, e]
  simp only [e2, hl]
  exact ⟨trivial, e1⟩
 ·have hl : locTo τ kap Φ k = Φ q.r := locTo_eq (by rw [hk]; rfl) k1
  have hrr := h.rows q.r row k2
  unfold RowRel at hrr
  unfold BodyTo at k6
  cases hb' : row'.body with
  | map kk' ents' =>
   rw [hb'] at k6
   cases hb : row.body with
   | cells es xs => rw [hb] at k6; cases hx : row.box <;> rw [hx] at k6 <;> simp at k6
   | map kk ents =>
    rw [hb] at k6
    simp only [hb] at hrr
    obtain ⟨b, es, clk, s1, s2, s3, s4, s5⟩ := hrr
    rw [s4] at k6
    obtain ⟨rfl, rfl⟩ := k6
    simp only [hl]
    exact ⟨b, es, clk, s1, s2, t2, by rw [← k5]; exact s4, EntsRel.mono (fun b hb _ => ⟨rfl, fun hb' => hb (pack_av h hp hN hb')⟩) (Nat.le_refl _) s5⟩
  | cells es us =>
   rw [hb'] at k6
   cases hb : row.body with
   | map kk ents => rw [hb] at k6; cases hx : row.box <;> rw [hx] at k6 <;> exact k6.elim
   | cells es0 xs =>
    rw [hb] at k6
    simp only [hb] at hrr
    simp only [hl]
    have fin : ∀ b ob, Φ q.r = some (b, ob) → b < w.heap.size → (row.own = true → ∃ c e, w.heap[b]? = some (.cells c e (0, 0)) ∧ ob + xs.length * es0 ≤ c.size) → us.length * es ≤ xs.length * es0 →
      RepRow w (Av N' τ (locTo τ kap Φ)) (if row'.box then Hd τ (locTo τ kap Φ) w else noH) us b ob es →
      RepRow w (Av N' τ (locTo τ kap Φ)) (if row'.box then Hd τ (locTo τ kap Φ) w else noH) us b ob es ∧ b < w.heap.size ∧ (row'.own = false → ¬ Av N' τ (locTo τ kap Φ) b) ∧ (row'.own = true → ∃ c e, w.heap[b]? = some (.cells c e (0, 0)) ∧ ob + us.length * es ≤ c.size) := by
     intro b ob hb hlt ho hle hr
     refine ⟨hr, hlt, (fun e => by rw [t2] at e; cases e), fun _ => ?_⟩
     obtain ⟨c, e, c1, c2⟩ := ho k4
     exact ⟨c, e, c1, by omega⟩
    cases hbx : row.box with
    | false =>
     rw [hbx] at k6 hrr k5
     obtain ⟨rfl, hus⟩ := k6
     have hlen : us.length ≤ xs.length := by rw [hus]; simp; omega
     cases hΦ : Φ q.r with
     | none =>
      rw [hΦ] at hrr
      refine ⟨?_, k5.symm⟩
      rw [hus, hrr.1]; simp
     | some y =>
      obtain ⟨b, ob⟩ := y
      rw [hΦ] at hrr
      obtain ⟨s1, s2, s3, s4⟩ := hrr
      refine fin b ob hΦ s2 s4 (Nat.mul_le_mul_right _ hlen) ?_
      rw [← k5]
      rw [hus]
      refine RepRow.mono (fun b hb _ => ⟨rfl, fun hb' => hb (pack_av h hp hN hb')⟩) (Nat.le_refl _) (fun _ _ h => h) rfl (RepRow.take (H := noH) ?_ _)
      simpa using s1
    | true =>
     rw [hbx] at k6 hrr k5
     match xs, us, k6 with
     | [x], [x'], ⟨hes0, hag, hct⟩ =>
      subst hes0
      cases hΦ : Φ q.r with
      | none => rw [hΦ] at hrr; cases hrr.2
      | some y =>
       obtain ⟨b, ob⟩ := y
       rw [hΦ] at hrr
       obtain ⟨s1, s2, s3, s4⟩ := hrr
       refine fin b ob hΦ s2 s4 (by simp) ?_
       rw [← k5]
       rw [if_pos rfl] at s1 ⊢
       obtain ⟨⟨v, v1, v2, v3⟩, _⟩ := s1
       refine ⟨?_, trivial⟩
       by_cases hxa : ∃ cs, x = .agg cs
       ·obtain ⟨cs, rfl⟩ := hxa
        obtain ⟨cs', rfl⟩ : ∃ cs', x' = .agg cs' := by cases x' <;> simp [AV.isAgg] at hag; exact ⟨_, rfl⟩
        obtain ⟨vs, rfl, r1, r2⟩ := v3
        exact ⟨.agg vs, v1, v2, vs, rfl, r1, pack_cells h hp hN hmine hex r2 hct⟩
       ·have hc1 : cellsOf x = [x] := by cases x <;> first | rfl | exact absurd ⟨_, rfl⟩ hxa
        have hxa' : ¬ ∃ cs, x' = .agg cs := by rintro ⟨cs, rfl⟩; cases x <;> first | (simp [AV.isAgg] at hag; done) | exact absurd ⟨_, rfl⟩ hxa
        have hc2 : cellsOf x' = [x'] := by cases x' <;> first | rfl | exact absurd ⟨_, rfl⟩ hxa'
        rw [hc1, hc2] at hct
        exact ⟨v, v1, v2, pack_cell h hp hN hmine hex v3 hct.1⟩
theorem Core.pack {env' : Env} {ce' : Nat → Value} {PO' : Nat → Prop} {w1 : Base} (hos : w.os = w1.os) (htape : w.tape = w1.tape) (hout : w.output = w1.output) (hsz : w1.heap.size ≤ w.heap.size)
  (hold : ∀ b, b < w1.heap.size → ¬ PO' b → w.heap[b]? = w1.heap[b]?) (hnlt : ∀ b, N' b → b < w1.heap.size ∧ ¬ PO' b) (hgr : Grows w1.toWorld w) (hloc : w1.loc = locTo τ kap Φ) (hrows : w1.rows0 = τ)
  (hmine2 : ∀ r row b o, lget ρ r = some row → row.own = true → Φ r = some (b, o) → Img τ kap r → PO' b ∨ w1.heap.size ≤ b)
  (henv : ∀ t, R N' τ (locTo τ kap Φ) w (St.slot ⟨env', τ⟩ t) (ce' t)) : Core N' PO' w1 ⟨env', τ⟩ ce' w (locTo τ kap Φ) := by
 refine ⟨hos, htape, hout, hsz, hold, hnlt, hgr, fun r row hr _ => ⟨by rw [hloc], row, by rw [hrows]; exact hr, ?_, rfl⟩, henv, fun r row hr => pack_row h hp hN hmine hex hr, ?_, ?_⟩
 ·cases row.body <;> rfl
 ·intro r r' row row' b o o' h1 h2 h3 h4 h5 h6
  obtain ⟨row1, q, _, g2, g3⟩ := locTo_some h5
  obtain ⟨row2, q', _, g2', g3'⟩ := locTo_some h6
  have e1 : (lget τ r).isSome = true := by rw [show lget τ r = some row from h1]; rfl
  have e2 : (lget τ r').isSome = true := by rw [show lget τ r' = some row' from h2]; rfl
  refine hp.inj r r' q q' e1 e2 g2 g2' ?_
  rcases (hp.T r row h1).2.2 with ⟨e, _⟩ | ⟨q1, ra, a1, a2, _, a4, _⟩
  ·rw [e] at g2; cases g2
  ·rcases (hp.T r' row' h2).2.2 with ⟨e, _⟩ | ⟨q2, rb, b1, b2, _, b4, _⟩
   ·rw [e] at g2'; cases g2'
   ·rw [a1] at g2; rw [b1] at g2'
    obtain rfl := Option.some.inj g2
    obtain rfl := Option.some.inj g2'
    exact h.inj _ _ _ _ b _ _ a2 b2 a4 b4 g3 g3'
 ·intro r row b o h1 h3 h5
  obtain ⟨row1, q, _, g2, g3⟩ := locTo_some h5
  rcases (hp.T r row h1).2.2 with ⟨e, _⟩ | ⟨q1, ra, a1, a2, _, a4, _⟩
  ·rw [e] at g2; cases g2
  ·rw [a1] at g2
   obtain rfl := Option.some.inj g2
   have him : Img τ kap q1.r := ⟨r, row, q1, h1, a1, rfl⟩
   exact ⟨hmine _ _ _ _ a2 a4 g3 him, hmine2 _ _ _ _ a2 a4 g3 him⟩
end
end Go.AL
end
section
namespace Go.AL
theorem lget_append {α : Type} : ∀ (a b : List (Nat × α)) (k : Nat), lget (a ++ b) k = match lget a k with | some x => some x | none => lget b k
 | [], _, _ => rfl
 | (n, v) :: a, b, k => by
  by_cases h : n = k
  ·simp [lget, h]
  ·simp [lget, h, lget_append a b k]
def topRow (k : Nat) : PA → Option Row
 | .ptr es x subs => some ⟨0, true, true, .cells es [(enterVal k subs x).1]⟩
 | .slc b => some ⟨0, true, false, b⟩
 | .mp b => some ⟨0, true, false, b⟩
 | _ => none
def nestRow (subs : List (Nat × Body)) (m : Nat) : AV → Option Row
 | .nst => (lget subs m).map fun b => ⟨0, true, false, b⟩
 | _ => none
theorem lget_enterRows : ∀ (l : List PA) (i k : Nat), lget (enterRows i l) k = if k < i then none else (l[k - i]?).bind (topRow k)
 | [], i, k => by simp [enterRows, lget]
 | a :: l, i, k => by
  have ih := lget_enterRows l (i + 1) k
  have key : ∀ (row : Row), topRow i a = some row → lget ((i, row) :: enterRows (i + 1) l) k = if k < i then none else ((a :: l)[k - i]?).bind (topRow k) := by
   intro row hr
   rw [lget, ih]
   by_cases h : i = k
   ·subst h; simp [hr]
   ·rw [if_neg h]
    by_cases h2 : k < i
    ·rw [if_pos h2, if_pos (by omega)]
    ·rw [if_neg h2, if_neg (by omega), show k - i = (k - (i + 1)) + 1 by omega]
     rfl
  have key2 : topRow i a = none → lget (enterRows (i + 1) l) k = if k < i then none else ((a :: l)[k - i]?).bind (topRow k) := by
   intro hr
   rw [ih]
   by_cases h : i = k
   ·subst h; simp [hr]
   ·by_cases h2 : k < i
    ·rw [if_pos h2, if_pos (by omega)]
    ·rw [if_neg h2, if_neg (by omega), show k - i = (k - (i + 1)) + 1 by omega]
     rfl
  cases a <;> first | exact key _ rfl | exact key2 rfl
theorem nestKey_ne {r j m : Nat} (h : j ≠ m) : nestKey r j ≠ nestKey r m := by unfold nestKey; omega
theorem lget_enterCells {r : Nat} {subs : List (Nat × Body)} : ∀ (cs : List AV) (j : Nat), (∀ m, lget (enterCells r subs j cs).2 (nestKey r m) = if m < j then none else (cs[m - j]?).bind (nestRow subs m)) ∧
  ∀ k, (∀ m, k ≠ nestKey r m) → lget (enterCells r subs j cs).2 k = none
 | [], j => ⟨fun m => by simp [enterCells, lget], fun k _ => rfl⟩
 | c :: cs, j => by
  obtain ⟨ih1, ih2⟩ := lget_enterCells (r := r) (subs := subs) cs (j + 1)
  have skip : ∀ m, lget (enterCells r subs (j + 1) cs).2 (nestKey r m) = if m < j then none else if m = j then none else ((c :: cs)[m - j]?).bind (nestRow subs m) := by
   intro m
   rw [ih1]
   by_cases h : m < j
   ·rw [if_pos h, if_pos (by omega)]
   ·rw [if_neg h]
    by_cases h2 : m = j
    ·rw [if_pos h2, if_pos (by omega)]
    ·rw [if_neg h2, if_neg (by omega), show m - j = (m - (j + 1)) + 1 by omega]
     rfl
  have none_case : nestRow subs j c = none → (enterCells r subs j (c :: cs)).2 = (enterCells r subs (j + 1) cs).2 → (∀ m, lget (enterCells r subs j (c :: cs)).2 (nestKey r m) = if m < j then none else ((c :: cs)[m - j]?).bind (nestRow subs m)) ∧
    ∀ k, (∀ m, k ≠ nestKey r m) → lget (enterCells r subs j (c :: cs)).2 k = none := by
   intro h1 h2
   rw [h2]
   refine ⟨fun m => ?_, ih2⟩
   rw [skip]
   by_cases h : m < j
   ·rw [if_pos h, if_pos h]
   ·rw [if_neg h, if_neg h]
    by_cases h3 : m = j
    ·subst h3; simp [h1]
    ·rw [if_neg h3]
  have some_case : ∀ row, nestRow subs j c = some row → (enterCells r subs j (c :: cs)).2 = (nestKey r j, row) :: (enterCells r subs (j + 1) cs).2 → (∀ m, lget (enterCells r subs j (c :: cs)).2 (nestKey r m) = if m < j then none else ((c :: cs)[m - j]?).bind (nestRow subs m)) ∧
    ∀ k, (∀ m, k ≠ nestKey r m) → lget (enterCells r subs j (c :: cs)).2 k = none := by
   intro row h1 h2
   rw [h2]
   refine ⟨fun m => ?_, fun k hk => ?_⟩
   ·rw [lget]
    by_cases h3 : m = j
    ·subst h3; simp [h1]
    ·rw [if_neg (nestKey_ne (fun e => h3 e.symm)), skip]
     by_cases h : m < j
     ·rw [if_pos h, if_pos h]
     ·rw [if_neg h, if_neg h, if_neg h3]
   ·rw [lget, if_neg (fun e => hk j e.symm)]
    exact ih2 k hk
  cases c with
  | nst =>
   cases hs : lget subs j with
   | none => exact none_case (by simp [nestRow, hs]) (by simp [enterCells, hs])
   | some b =>
    cases b with
    | cells es xs => exact some_case _ (by simp [nestRow, hs]; rfl) (by simp [enterCells, hs])
    | map kk es => exact some_case _ (by simp [nestRow, hs]; rfl) (by simp [enterCells, hs])
  | _ => exact none_case rfl rfl
theorem enterVal_rows {i : Nat} {subs : List (Nat × Body)} {x : AV} : (enterVal i subs x).2 = (enterCells i subs 0 (cellsOf x)).2 := by cases x <;> rfl
def nestAt (m : Nat) : PA → Option Row
 | .ptr _ x subs => ((cellsOf x)[m]?).bind (nestRow subs m)
 | _ => none
theorem lget_enterNest : ∀ (l : List PA) (i : Nat), i + l.length ≤ M → (∀ a m, a < M → lget (enterNest i l) (nestKey a m) = if a < i then none else (l[a - i]?).bind (nestAt m)) ∧ ∀ k, k < M → lget (enterNest i l) k = none
 | [], i, _ => ⟨fun a m _ => by simp [enterNest, lget], fun _ _ => rfl⟩
 | a0 :: l, i, hM => by
  have hM' : i + 1 + l.length ≤ M := by simp at hM; omega
  obtain ⟨ih1, ih2⟩ := lget_enterNest l (i + 1) hM'
  have skip : ∀ a m, a < M → lget (enterNest (i + 1) l) (nestKey a m) = if a < i then none else if a = i then none else ((a0 :: l)[a - i]?).bind (nestAt m) := by
   intro a m ha
   rw [ih1 a m ha]
   by_cases h : a < i
   ·rw [if_pos h, if_pos (by omega)]
   ·rw [if_neg h]
    by_cases h2 : a = i
    ·rw [if_pos h2, if_pos (by omega)]
    ·rw [if_neg h2, if_neg (by omega), show a - i = (a - (i + 1)) + 1 by omega]
     rfl
  have other : enterNest i (a0 :: l) = enterNest (i + 1) l → (∀ m, nestAt m a0 = none) → (∀ a m, a < M → lget (enterNest i (a0 :: l)) (nestKey a m) = if a < i then none else ((a0 :: l)[a - i]?).bind (nestAt m)) ∧ ∀ k, k < M → lget (enterNest i (a0 :: l)) k = none := by
   intro h1 h2
   rw [h1]
   refine ⟨fun a m ha => ?_, ih2⟩
   rw [skip a m ha]
   by_cases h : a < i
   ·rw [if_pos h, if_pos h]
   ·rw [if_neg h, if_neg h]
    by_cases h3 : a = i
    ·subst h3; simp [h2]
    ·rw [if_neg h3]
  cases a0 with
  | ptr es x subs =>
   obtain ⟨c1, c2⟩ := lget_enterCells (r := i) (subs := subs) (cellsOf x) 0
   refine ⟨fun a m ha => ?_, fun k hk => ?_⟩
   ·simp only [enterNest, lget_append, enterVal_rows]
    by_cases h3 : a = i
    ·subst h3
     have hz : ¬ a < a := by omega
     rw [c1 m]
     simp only [Nat.not_lt_zero, if_false, Nat.sub_zero, hz, Nat.sub_self, List.getElem?_cons_zero, Option.bind_some]
     rw [show nestAt m (.ptr es x subs) = ((cellsOf x)[m]?).bind (nestRow subs m) from rfl]
     cases hq : ((cellsOf x)[m]?).bind (nestRow subs m) with
     | some _ => rfl
     | none => simp only; rw [skip a m ha, if_neg (by omega), if_pos rfl]
    ·rw [c2 (nestKey a m) (fun m' e => h3 (by
      unfold nestKey at e
      have hi : i < M := by simp at hM; omega
      unfold M at ha hi
      omega))]
     simp only
     rw [skip a m ha]
     by_cases h : a < i
     ·rw [if_pos h, if_pos h]
     ·rw [if_neg h, if_neg h, if_neg h3]
   ·simp only [enterNest, lget_append, enterVal_rows]
    rw [c2 k (fun m' e => by unfold nestKey at e; unfold M at hk; omega)]
    exact ih2 k hk
  | _ => exact other rfl (fun _ => rfl)
theorem entry_top {as : List PA} (hM : as.length ≤ M) {k : Nat} (hk : k < M) : lget (entry as).rows k = (as[k]?).bind (topRow k) := by
 simp only [entry, lget_append, lget_enterRows, Nat.not_lt_zero, if_false, Nat.sub_zero]
 have := (lget_enterNest as 0 (by simpa using hM)).2 k hk
 rw [this]
 cases (as[k]?).bind (topRow k) <;> rfl
theorem entry_nest {as : List PA} (hM : as.length ≤ M) {a m : Nat} (ha : a < M) : lget (entry as).rows (nestKey a m) = (as[a]?).bind (nestAt m) := by
 simp only [entry, lget_append, lget_enterRows, Nat.not_lt_zero, if_false, Nat.sub_zero]
 have := (lget_enterNest as 0 (by simpa using hM)).1 a m ha
 rw [this]
 have h0 : as[nestKey a m]? = none := by
  have h1 : M ≤ nestKey a m := by unfold nestKey M; omega
  exact List.getElem?_eq_none (Nat.le_trans hM h1)
 rw [h0]
 rfl
theorem key_cases (k : Nat) : k < M ∨ ∃ a m, a < M ∧ k = nestKey a m := by
 by_cases h : k < M
 ·exact .inl h
 ·refine .inr ⟨k % M, k / M - 1, Nat.mod_lt _ (by unfold M; omega), ?_⟩
  unfold nestKey
  unfold M at h ⊢
  omega

def cellSrc : AV → Option Pl
 | .hs q _ _ => some q
 | .hm q => some q
 | _ => none
section
variable (ρ : Rows)
def PieceOK (s : Option Pl) : PA → Prop
 | .data _ | .lost => s = none
 | .slc (.cells es us) => match s with
  | none => us = []
  | some p => ∃ xs, lget ρ p.r = some ⟨p.g, true, false, .cells es xs⟩ ∧ us = xs.take us.length
 | .mp (.map kk es) => ∃ p, s = some p ∧ lget ρ p.r = some ⟨p.g, true, false, .map kk es⟩
 | .ptr es y subs => ∃ p x, s = some p ∧ lget ρ p.r = some ⟨p.g, true, true, .cells es [x]⟩ ∧ x.isAgg = y.isAgg ∧ packOut ρ subs 0 (cellsOf x) (cellsOf y)
 | _ => False
def srcCell (s : Option Pl) (j : Nat) : Option Pl :=
 match s with
 | some p => match lget ρ p.r with
  | some ⟨_, _, true, .cells _ [x]⟩ => ((cellsOf x)[j]?).bind cellSrc
  | _ => none
 | none => none
def kapOf (ss : List (Option Pl)) (k : Nat) : Option Pl := if k < M then (ss[k]?).join else srcCell ρ (ss[k % M]?).join (k / M - 1)
def pieceKeys (s : Option Pl) (a : PA) : List Nat :=
 match s with
 | none => []
 | some p => p.r :: (match a, lget ρ p.r with
  | .ptr _ y _, some ⟨_, _, true, .cells _ [x]⟩ => packKeys (cellsOf x) (cellsOf y)
  | _, _ => [])
end
theorem kap_top {ρ : Rows} {ss : List (Option Pl)} {k : Nat} (h : k < M) : kapOf ρ ss k = (ss[k]?).join := if_pos h
theorem kap_nest {ρ : Rows} {ss : List (Option Pl)} {a m : Nat} (h : a < M) : kapOf ρ ss (nestKey a m) = srcCell ρ (ss[a]?).join m := by
 unfold kapOf
 have h1 : ¬ nestKey a m < M := by unfold nestKey M; omega
 have h2 : nestKey a m % M = a := by unfold nestKey; unfold M at h ⊢; omega
 have h3 : nestKey a m / M - 1 = m := by unfold nestKey; unfold M at h ⊢; omega
 rw [if_neg h1, h2, h3]
theorem packOut_at {ρ : Rows} {subs : List (Nat × Body)} : ∀ {j : Nat} {xs ys : List AV} (h : packOut ρ subs j xs ys) (m : Nat), ys[m]? = some .nst →
  (∃ p n es zs, xs[m]? = some (.hs p 0 n) ∧ lget ρ p.r = some ⟨p.g, true, false, .cells es zs⟩ ∧ n ≤ zs.length ∧ lget subs (j + m) = some (.cells es (zs.take n))) ∨
  (∃ p kk es, xs[m]? = some (.hm p) ∧ lget ρ p.r = some ⟨p.g, true, false, .map kk es⟩ ∧ lget subs (j + m) = some (.map kk es)) := by
 intro j xs ys
 fun_induction packOut ρ subs j xs ys with
 | case1 => intro _ m h; simp at h
 | case2 j p o n xs ys ih =>
  intro h m hm
  cases m with
  | zero =>
   left
   obtain ⟨h1, _⟩ := h
   split at h1
   ·rename_i g es zs es' us e1 e2
    obtain ⟨rfl, rfl, h3, rfl, rfl⟩ := h1
    exact ⟨p, n, _, zs, rfl, e1, h3, e2⟩
   ·exact h1.elim
  | succ m =>
   have := ih h.2 m (by simpa using hm)
   simpa [Nat.add_assoc, Nat.add_comm 1] using this
 | case3 j p xs ys ih =>
  intro h m hm
  cases m with
  | zero =>
   right
   obtain ⟨h1, _⟩ := h
   split at h1
   ·rename_i g kk es kk' es' e1 e2
    obtain ⟨rfl, rfl, rfl⟩ := h1
    exact ⟨p, _, _, rfl, e1, e2⟩
   ·exact h1.elim
  | succ m =>
   have := ih h.2 m (by simpa using hm)
   simpa [Nat.add_assoc, Nat.add_comm 1] using this
 | case4 j x xs y ys hn1 hn2 ih =>
  intro h m hm
  cases m with
  | zero =>
   simp at hm
   subst hm
   obtain ⟨h1, _⟩ := h
   unfold cellOut at h1
   cases x <;> simp at h1
  | succ m =>
   have := ih h.2 m (by simpa using hm)
   simpa [Nat.add_assoc, Nat.add_comm 1] using this
 | case5 => intro h; exact h.elim
end Go.AL
end
section
namespace Go.AL
section
variable {ex : Prop} {ρ τ : Rows} {kap : Nat → Option Pl} {k : Nat} {subs : List (Nat × Body)}
theorem cellKeys_cons (x y : AV) (xs ys : List AV) : cellKeys (x :: xs) (y :: ys) = cellKeys xs ys ∨ ∃ q, cellKeys (x :: xs) (y :: ys) = q :: cellKeys xs ys := by
 cases x <;> cases y <;> simp [cellKeys]
theorem packKeys_cons (x y : AV) (xs ys : List AV) : packKeys (x :: xs) (y :: ys) = packKeys xs ys ∨ ∃ q, packKeys (x :: xs) (y :: ys) = q :: packKeys xs ys := by
 cases x <;> cases y <;> simp [packKeys]
theorem cellsTo_of : ∀ {j : Nat} {xs ys : List AV}, packOut ρ subs j xs ys → (∀ m, kap (nestKey k (j + m)) = (xs[m]?).bind cellSrc) → (∀ m, lget τ (nestKey k (j + m)) = (ys[m]?).bind (nestRow subs (j + m))) →
  (∀ r ∈ cellKeys xs ys, (∃ row, lget ρ r = some row ∧ row.own = false) ∨ (ex ∧ ¬ Img τ kap r)) → CellsTo ex ρ τ kap k j xs (enterCells k subs j ys).1 := by
 intro j xs ys
 fun_induction packOut ρ subs j xs ys with
 | case1 => intro _ _ _ _; trivial
 | case2 j p o n xs ys ih =>
  intro h h1 h2 h3
  obtain ⟨h0, h⟩ := h
  have ih := ih h (fun m => by have := h1 (m + 1); simpa [Nat.add_assoc, Nat.add_comm 1] using this) (fun m => by have := h2 (m + 1); simpa [Nat.add_assoc, Nat.add_comm 1] using this)
   (fun r hr => h3 r (by simpa [cellKeys] using hr))
  split at h0
  ·rename_i g es zs es' us e1 e2
   obtain ⟨rfl, rfl, h4, rfl, rfl⟩ := h0
   have k1 := h1 0
   have k2 := h2 0
   simp only [Nat.add_zero, List.getElem?_cons_zero, Option.bind_some, cellSrc, nestRow, e2, Option.map_some] at k1 k2
   have hl : (zs.take n).length = n := by simp; omega
   simp only [enterCells, e2]
   refine ⟨.inr (.inl ⟨p, n, rfl, by rw [hl], by rw [k2]; rfl, k1⟩), ih⟩
  ·exact h0.elim
 | case3 j p xs ys ih =>
  intro h h1 h2 h3
  obtain ⟨h0, h⟩ := h
  have ih := ih h (fun m => by have := h1 (m + 1); simpa [Nat.add_assoc, Nat.add_comm 1] using this) (fun m => by have := h2 (m + 1); simpa [Nat.add_assoc, Nat.add_comm 1] using this)
   (fun r hr => h3 r (by simpa [cellKeys] using hr))
  split at h0
  ·rename_i g kk es kk' es' e1 e2
   obtain ⟨rfl, rfl, rfl⟩ := h0
   have k1 := h1 0
   have k2 := h2 0
   simp only [Nat.add_zero, List.getElem?_cons_zero, Option.bind_some, cellSrc, nestRow, e2, Option.map_some] at k1 k2
   simp only [enterCells, e2]
   refine ⟨.inr (.inr ⟨p, rfl, rfl, by rw [k2]; rfl, k1⟩), ih⟩
  ·exact h0.elim
 | case4 j x xs y ys hn1 hn2 ih =>
  intro h h1 h2 h3
  obtain ⟨h0, h⟩ := h
  have ih := ih h (fun m => by have := h1 (m + 1); simpa [Nat.add_assoc, Nat.add_comm 1] using this) (fun m => by have := h2 (m + 1); simpa [Nat.add_assoc, Nat.add_comm 1] using this)
   (fun r hr => h3 r (by
    rcases cellKeys_cons x y xs ys with e | ⟨q, e⟩ <;> rw [e]
    ·exact hr
    ·exact .tail _ hr))
  have hy : ∀ {P : Prop}, y = .nst → P := by
   rintro P rfl
   unfold cellOut at h0
   cases x <;> simp at h0
  have hcell : CellTo ex ρ τ kap (nestKey k j) x y := by
   refine .inl ⟨h0, ?_⟩
   rintro p o n es zs rfl rfl
   exact h3 p.r (by simp [cellKeys])
  have e : enterCells k subs j (y :: ys) = (y :: (enterCells k subs (j + 1) ys).1, (enterCells k subs (j + 1) ys).2) := by
   cases y <;> first | rfl | exact hy rfl
  rw [e]
  exact ⟨hcell, ih⟩
 | case5 => intro h; exact h.elim
theorem nodup_at {α : Type} {f : α → List Nat} : ∀ {l : List α}, (l.flatMap f).Nodup → ∀ {i i' : Nat} {a a' : α} {r : Nat}, l[i]? = some a → l[i']? = some a' → r ∈ f a → r ∈ f a' → i = i'
 | [], _, _, _, _, _, _, h, _, _, _ => by simp at h
 | x :: l, hn, i, i', a, a', r, h1, h2, h3, h4 => by
  rw [List.flatMap_cons, List.nodup_append] at hn
  obtain ⟨n1, n2, n3⟩ := hn
  cases i with
  | zero =>
   simp at h1; subst h1
   cases i' with
   | zero => rfl
   | succ i' =>
    exfalso
    exact n3 r h3 r (List.mem_flatMap.2 ⟨a', List.mem_of_getElem? (by simpa using h2), h4⟩) rfl
  | succ i =>
   cases i' with
   | zero =>
    simp at h2; subst h2
    exfalso
    exact n3 r h4 r (List.mem_flatMap.2 ⟨a, List.mem_of_getElem? (by simpa using h1), h3⟩) rfl
   | succ i' => exact congrArg (· + 1) (nodup_at n2 (i := i) (i' := i') (by simpa using h1) (by simpa using h2) h3 h4)
theorem nodup_in {α : Type} {f : α → List Nat} {l : List α} (hn : (l.flatMap f).Nodup) {i : Nat} {a : α} (h : l[i]? = some a) : (f a).Nodup := by
 induction l generalizing i with
 | nil => simp at h
 | cons x l ih =>
  rw [List.flatMap_cons, List.nodup_append] at hn
  cases i with
  | zero => simp at h; subst h; exact hn.1
  | succ i => exact ih hn.2.1 (by simpa using h)
theorem packKeys_mem : ∀ {xs ys : List AV} {m : Nat} {x : AV} {p : Pl}, xs[m]? = some x → cellSrc x = some p → ys[m]? = some .nst → p.r ∈ packKeys xs ys
 | x0 :: xs, y0 :: ys, 0, x, p, h1, h2, h3 => by
  simp at h1 h3
  subst h1 h3
  cases x0 <;> simp [cellSrc] at h2 <;> subst h2 <;> simp [packKeys]
 | x0 :: xs, y0 :: ys, m + 1, x, p, h1, h2, h3 => by
  have := packKeys_mem (xs := xs) (ys := ys) (m := m) (by simpa using h1) h2 (by simpa using h3)
  rcases packKeys_cons x0 y0 xs ys with e | ⟨q, e⟩ <;> rw [e]
  ·exact this
  ·exact .tail _ this
 | [], _, _, _, _, h1, _, _ => by simp at h1
 | _ :: _, [], _, _, _, _, _, h3 => by simp at h3
theorem packKeys_inj : ∀ {xs ys : List AV}, (packKeys xs ys).Nodup → ∀ {m m' : Nat} {x x' : AV} {p p' : Pl}, xs[m]? = some x → cellSrc x = some p → ys[m]? = some .nst → xs[m']? = some x' → cellSrc x' = some p' → ys[m']? = some .nst → p.r = p'.r → m = m'
 | x0 :: xs, y0 :: ys, hn, m, m', x, x', p, p', h1, h2, h3, h1', h2', h3', he => by
  have hcons : ∀ q, cellSrc x0 = some q → y0 = .nst → packKeys (x0 :: xs) (y0 :: ys) = q.r :: packKeys xs ys := by
   rintro q hq rfl
   cases x0 <;> simp [cellSrc] at hq <;> subst hq <;> rfl
  cases m with
  | zero =>
   simp at h1 h3
   subst h1
   cases m' with
   | zero => rfl
   | succ m' =>
    exfalso
    rw [hcons p h2 h3, List.nodup_cons] at hn
    exact hn.1 (by rw [he]; exact packKeys_mem (by simpa using h1') h2' (by simpa using h3'))
  | succ m =>
   cases m' with
   | zero =>
    simp at h1' h3'
    subst h1'
    exfalso
    rw [hcons p' h2' h3', List.nodup_cons] at hn
    exact hn.1 (by rw [← he]; exact packKeys_mem (by simpa using h1) h2 (by simpa using h3))
   | succ m' =>
    have hn' : (packKeys xs ys).Nodup := by
     rcases packKeys_cons x0 y0 xs ys with e | ⟨q, e⟩ <;> rw [e] at hn
     ·exact hn
     ·exact (List.nodup_cons.1 hn).2
    exact congrArg (· + 1) (packKeys_inj hn' (m := m) (m' := m') (by simpa using h1) h2 (by simpa using h3) (by simpa using h1') h2' (by simpa using h3') he)
 | [], _, _, _, _, _, _, _, _, h1, _, _, _, _, _, _ => by simp at h1
 | _ :: _, [], _, _, _, _, _, _, _, _, _, h3, _, _, _, _ => by simp at h3
end
section
variable {ex : Prop} {ρ : Rows} {as : List PA} {ss : List (Option Pl)}
theorem ss_at (hl : ss.length = as.length) {i : Nat} {a : PA} (h : as[i]? = some a) : ∃ s, ss[i]? = some s := by
 have := (List.getElem?_eq_some_iff.1 h).1
 exact ⟨ss[i]'(by omega), List.getElem?_eq_getElem _⟩
theorem enterVal_agg {i : Nat} {subs : List (Nat × Body)} {y : AV} : (enterVal i subs y).1.isAgg = y.isAgg ∧ cellsOf (enterVal i subs y).1 = (enterCells i subs 0 (cellsOf y)).1 := by
 cases y with
 | agg cs => exact ⟨rfl, rfl⟩
 | nst =>
  simp only [enterVal, cellsOf, enterCells]
  cases lget subs 0 with
  | none => exact ⟨rfl, rfl⟩
  | some b => cases b <;> exact ⟨rfl, rfl⟩
 | _ => exact ⟨rfl, rfl⟩
theorem packed_of (hl : ss.length = as.length) (hM : as.length ≤ M) (hok : ∀ (i : Nat) (a : PA) (s : Option Pl), as[i]? = some a → ss[i]? = some s → PieceOK ρ s a) (hnd : ((ss.zip as).flatMap fun p => pieceKeys ρ p.1 p.2).Nodup)
  (hD : ∀ (i es : Nat) (y : AV) (subs : List (Nat × Body)) (p : Pl) (x : AV), as[i]? = some (.ptr es y subs) → ss[i]? = some (some p) → lget ρ p.r = some ⟨p.g, true, true, .cells es [x]⟩ → ∀ r ∈ cellKeys (cellsOf x) (cellsOf y), (∃ row, lget ρ r = some row ∧ row.own = false) ∨ (ex ∧ ¬ Img (entry as).rows (kapOf ρ ss) r)) :
  Packed ex ρ (entry as).rows (kapOf ρ ss) := by
 -- what a nested row is
 have nest : ∀ {a m : Nat} {row' : Row}, a < M → lget (entry as).rows (nestKey a m) = some row' → ∃ es y subs p x b, as[a]? = some (.ptr es y subs) ∧ ss[a]? = some (some p) ∧ lget ρ p.r = some ⟨p.g, true, true, .cells es [x]⟩ ∧ packOut ρ subs 0 (cellsOf x) (cellsOf y) ∧
   (cellsOf y)[m]? = some .nst ∧ lget subs m = some b ∧ row' = ⟨0, true, false, b⟩ := by
  intro a m row' ha hk
  rw [entry_nest hM ha] at hk
  cases ha1 : as[a]? with
  | none => rw [ha1] at hk; cases hk
  | some pa =>
   rw [ha1] at hk
   simp only [Option.bind_some] at hk
   cases pa with
   | ptr es y subs =>
    obtain ⟨s, hs⟩ := ss_at hl ha1
    obtain ⟨p, x, rfl, g1, g2, g3⟩ := hok a _ s ha1 hs
    simp only [nestAt] at hk
    cases hc : (cellsOf y)[m]? with
    | none => rw [hc] at hk; cases hk
    | some c =>
     rw [hc] at hk
     simp only [Option.bind_some] at hk
     cases c with
     | nst =>
      simp only [nestRow, Option.map_eq_some_iff] at hk
      obtain ⟨b, hb, rfl⟩ := hk
      exact ⟨es, y, subs, p, x, b, rfl, hs, g1, g3, hc, hb, rfl⟩
     | _ => cases hk
   | _ => cases hk
 have nsrc : ∀ {a m : Nat} {es : Nat} {x : AV} {p : Pl}, a < M → ss[a]? = some (some p) → lget ρ p.r = some ⟨p.g, true, true, .cells es [x]⟩ → kapOf ρ ss (nestKey a m) = ((cellsOf x)[m]?).bind cellSrc := by
  intro a m es x p ha hs hx
  rw [kap_nest ha, hs]
  simp [srcCell, hx]
 -- which piece a key belongs to
 have inp : ∀ {k : Nat} {q : Pl}, (lget (entry as).rows k).isSome = true → kapOf ρ ss k = some q → ∃ i s pa, i < M ∧ ss[i]? = some s ∧ as[i]? = some pa ∧ q.r ∈ pieceKeys ρ s pa ∧
   ((k = i ∧ s = some q) ∨ ∃ m es y subs p x c, k = nestKey i m ∧ s = some p ∧ pa = .ptr es y subs ∧ lget ρ p.r = some ⟨p.g, true, true, .cells es [x]⟩ ∧ (cellsOf x)[m]? = some c ∧ cellSrc c = some q ∧ (cellsOf y)[m]? = some .nst ∧ q.r ∈ packKeys (cellsOf x) (cellsOf y)) := by
  intro k q hk hq
  obtain ⟨row', hk⟩ := Option.isSome_iff_exists.1 hk
  rcases key_cases k with hkM | ⟨a, m, ha, rfl⟩
  ·rw [kap_top hkM] at hq
   rw [entry_top hM hkM] at hk
   cases hs : ss[k]? with
   | none => rw [hs] at hq; cases hq
   | some s =>
    rw [hs] at hq
    have hq : s = some q := by simpa using hq
    subst hq
    cases hpa : as[k]? with
    | none => rw [hpa] at hk; cases hk
    | some pa => exact ⟨k, some q, pa, hkM, hs, hpa, by simp [pieceKeys], .inl ⟨rfl, rfl⟩⟩
  ·obtain ⟨es, y, subs, p, x, b, g1, g2, g3, g4, g5, g6, rfl⟩ := nest ha hk
   rw [nsrc ha g2 g3] at hq
   cases hc : (cellsOf x)[m]? with
   | none => rw [hc] at hq; cases hq
   | some c =>
    rw [hc] at hq
    have hq : cellSrc c = some q := hq
    have hmem := packKeys_mem hc hq g5
    exact ⟨a, some p, _, ha, g2, g1, by simp [pieceKeys, g3, hmem], .inr ⟨m, es, y, subs, p, x, c, rfl, rfl, rfl, g3, hc, hq, g5, hmem⟩⟩
 have zipAt : ∀ {i : Nat} {s : Option Pl} {pa : PA}, ss[i]? = some s → as[i]? = some pa → (ss.zip as)[i]? = some (s, pa) := by
  intro i s pa h1 h2
  rw [List.getElem?_zip_eq_some]
  exact ⟨h1, h2⟩
 refine ⟨fun k row' hk => ?_, fun k k' q q' hk hk' hq hq' he => ?_⟩
 ·rcases key_cases k with hkM | ⟨a, m, ha, rfl⟩
  ·rw [entry_top hM hkM] at hk
   cases hpa : as[k]? with
   | none => rw [hpa] at hk; cases hk
   | some pa =>
    rw [hpa] at hk
    simp only [Option.bind_some] at hk
    obtain ⟨s, hs⟩ := ss_at hl hpa
    have hpo := hok k pa s hpa hs
    have hkap : kapOf ρ ss k = s := by rw [kap_top hkM, hs]; rfl
    cases pa with
    | data _ => cases hk
    | lost => cases hk
    | mp b =>
     obtain rfl := Option.some.inj hk
     cases b with
     | cells es xs => exact hpo.elim
     | map kk es =>
      obtain ⟨p, rfl, g1⟩ := hpo
      exact ⟨rfl, rfl, .inr ⟨p, _, hkap, g1, rfl, rfl, rfl, rfl, rfl⟩⟩
    | slc b =>
     obtain rfl := Option.some.inj hk
     cases b with
     | map kk es => exact hpo.elim
     | cells es us =>
      cases s with
      | none =>
       have : us = [] := hpo
       subst this
       exact ⟨rfl, rfl, .inl ⟨hkap, rfl, es, rfl⟩⟩
      | some p =>
       obtain ⟨xs, g1, g2⟩ := hpo
       exact ⟨rfl, rfl, .inr ⟨p, _, hkap, g1, rfl, rfl, rfl, rfl, g2⟩⟩
    | ptr es y subs =>
     obtain rfl := Option.some.inj hk
     obtain ⟨p, x, rfl, g1, g2, g3⟩ := hpo
     refine ⟨rfl, rfl, .inr ⟨p, _, hkap, g1, rfl, rfl, rfl, rfl, g2.trans enterVal_agg.1.symm, ?_⟩⟩
     rw [enterVal_agg.2]
     exact cellsTo_of g3 (fun m => by rw [Nat.zero_add]; exact nsrc hkM hs g1) (fun m => by rw [Nat.zero_add, entry_nest hM hkM, hpa]; rfl) (hD k es y subs p x hpa hs g1)
  ·obtain ⟨es, y, subs, p, x, b, g1, g2, g3, g4, g5, g6, rfl⟩ := nest ha hk
   refine ⟨rfl, rfl, .inr ?_⟩
   rw [nsrc ha g2 g3]
   rcases packOut_at g4 m g5 with ⟨q, n, es', zs, e1, e2, e3, e4⟩ | ⟨q, kk, es', e1, e2, e3⟩
   ·rw [Nat.zero_add, g6] at e4
    obtain rfl := Option.some.inj e4
    have hl : (zs.take n).length = n := by simp; omega
    exact ⟨q, _, by rw [e1]; rfl, e2, rfl, rfl, rfl, rfl, by rw [hl]⟩
   ·rw [Nat.zero_add, g6] at e3
    obtain rfl := Option.some.inj e3
    exact ⟨q, _, by rw [e1]; rfl, e2, rfl, rfl, rfl, rfl, rfl⟩
 ·obtain ⟨i, s, pa, hi, h1, h2, h3, h4⟩ := inp hk hq
  obtain ⟨i', s', pa', hi', h1', h2', h3', h4'⟩ := inp hk' hq'
  have hii : i = i' := nodup_at hnd (zipAt h1 h2) (zipAt h1' h2') h3 (by rw [he]; exact h3')
  subst hii
  rw [h1] at h1'; obtain rfl := Option.some.inj h1'
  rw [h2] at h2'; obtain rfl := Option.some.inj h2'
  have hn1 := nodup_in hnd (zipAt h1 h2)
  rcases h4 with ⟨rfl, rfl⟩ | ⟨m, es, y, subs, p, x, c, rfl, rfl, rfl, e1, e2, e3, e4, e5⟩
  ·rcases h4' with ⟨rfl, e⟩ | ⟨m', es', y', subs', p', x', c', rfl, e0, rfl, e1', e2', e3', e4', e5'⟩
   ·rfl
   ·exfalso
    obtain rfl := Option.some.inj e0
    simp only [pieceKeys, e1', List.nodup_cons] at hn1
    exact hn1.1 (by rw [he]; exact e5')
  ·rcases h4' with ⟨rfl, e⟩ | ⟨m', es', y', subs', p', x', c', rfl, e0, e0', e1', e2', e3', e4', e5'⟩
   ·exfalso
    obtain rfl := Option.some.inj e
    simp only [pieceKeys, e1, List.nodup_cons] at hn1
    exact hn1.1 (by rw [← he]; exact e5)
   ·obtain rfl := Option.some.inj e0
    obtain ⟨rfl, rfl, rfl⟩ := by simpa using e0'
    rw [e1] at e1'
    obtain rfl := by simpa using e1'
    simp only [pieceKeys, e1, List.nodup_cons] at hn1
    rw [packKeys_inj hn1.2 e2 e3 e4 e2' e3' e4' he]
end
end Go.AL
end
section
namespace Go.AL
inductive St3 where
 | keep | dead
 | got (kx : Nat)
section
variable (ρ W τx : Rows) (im : Nat → Prop) (st : Nat → St3) (Φ Φx : Nat → Loc)
def HandleTo (kx k g : Nat) : Prop := st k = .got kx ∧ (lget τx kx).isSome = true ∧ ∃ row, lget W k = some row ∧ row.gen = g
def CellFrom (c c' : AV) : Prop :=
 (c' = c ∧ (∀ p o n, c ≠ .hs p o n) ∧ (∀ p i j, c ≠ .hp p i j) ∧ (∀ p, c ≠ .hm p) ∧ (∀ cs, c ≠ .agg cs) ∧ (∀ cs, c ≠ .tup cs)) ∨
 (∃ kx n k g, c = .hs ⟨kx, 0⟩ 0 n ∧ c' = .hs ⟨k, g⟩ 0 n ∧ HandleTo W τx st kx k g) ∨ (∃ kx k g, c = .hm ⟨kx, 0⟩ ∧ c' = .hm ⟨k, g⟩ ∧ HandleTo W τx st kx k g)
def CellsFrom : List AV → List AV → Prop
 | [], [] => True
 | c :: cs, c' :: cs' => CellFrom W τx st c c' ∧ CellsFrom cs cs'
 | _, _ => False
def ValFrom : AV → AV → Prop
 | .agg cs, .agg cs' => CellsFrom W τx st cs cs'
 | .agg _, _ => False
 | _, .agg _ => False
 | c, c' => CellFrom W τx st c c'
def BodyFrom (box : Bool) (b b' : Body) : Prop :=
 match box, b, b' with
 | true, .cells es [x], .cells es' [x'] => es = es' ∧ ValFrom W τx st x x'
 | true, _, _ => False
 | false, b, b' => b' = b
structure Merged : Prop where
 all : ∀ k row, lget ρ k = some row → ∃ row', lget W k = some row' ∧ row.gen ≤ row'.gen
 keep : ∀ k row, lget W k = some row → st k = .keep → lget ρ k = some row ∧ (row.own = true → ¬ im k)
 dead : ∀ k row, lget W k = some row → st k = .dead → row.own = false ∧ row.box = false ∧ row.body = .cells 0 [] ∧ row.gen ≠ 0 ∧ ∀ row0, lget ρ k = some row0 → row0.gen < row.gen
 got : ∀ k row kx, lget W k = some row → st k = .got kx → ∃ rowx, lget τx kx = some rowx ∧ rowx.gen = 0 ∧ rowx.own = true ∧ row.own = true ∧ row.box = rowx.box ∧ BodyFrom W τx st row.box rowx.body row.body ∧
  ((row.gen ≠ 0 ∧ ∀ row0, lget ρ k = some row0 → row0.gen < row.gen) ∨ (∃ row0, lget ρ k = some row0 ∧ row0.gen = row.gen ∧ row0.own = true ∧ Φx kx = Φ k ∧ sameShape row0.body row.body ∧ row0.box = row.box))
 inj : ∀ k k' kx, (lget W k).isSome = true → (lget W k').isSome = true → st k = .got kx → st k' = .got kx → k = k'
def locM (k : Nat) : Loc :=
 match st k with
 | .keep => Φ k
 | .dead => none
 | .got kx => Φx kx
end
section
variable {N PO : Nat → Prop} {w0 w1 : Base} {w w' : World} {env envx : Env} {ρ W τx : Rows} {ce cex : Nat → Value} {Φ Φx : Nat → Loc} {im : Nat → Prop} {st : Nat → St3}
def Nx (N : Nat → Prop) (ρ : Rows) (im : Nat → Prop) (Φ : Nat → Loc) (b : Nat) : Prop := N b ∨ ∃ r row o, lget ρ r = some row ∧ row.own = true ∧ Φ r = some (b, o) ∧ ¬ im r
def Px (ρ : Rows) (im : Nat → Prop) (Φ : Nat → Loc) (b : Nat) : Prop := ∃ r row o, lget ρ r = some row ∧ row.own = true ∧ Φ r = some (b, o) ∧ im r
variable (h : Core N PO w0 ⟨env, ρ⟩ ce w Φ) (hx : Core (Nx N ρ im Φ) (Px ρ im Φ) w1 ⟨envx, τx⟩ cex w' Φx) (hw : w1.toWorld = w) (hm : Merged ρ W τx im st Φ Φx)
include h hx hw hm
theorem mg_px {b : Nat} (hb : Px ρ im Φ b) : Av N ρ Φ b := by
 obtain ⟨r, row, o, h1, h2, h3, _⟩ := hb
 exact .inr ⟨r, row, o, h1, h2, h3⟩
theorem mg_old {b : Nat} (hb : b < w.heap.size) (hp : ¬ Px ρ im Φ b) : w'.heap[b]? = w.heap[b]? := by
 have := hx.old b (by rw [hw]; exact hb) hp
 rwa [hw] at this
theorem mg_own {k : Nat} {row : Row} (hk : lget ρ k = some row) (ho : row.own = true) (hi : ¬ im k) {b o : Nat} (hb : Φ k = some (b, o)) : Nx N ρ im Φ b ∧ w'.heap[b]? = w.heap[b]? := by
 have hn : Nx N ρ im Φ b := .inr ⟨k, row, o, hk, ho, hb, hi⟩
 obtain ⟨h1, h2⟩ := hx.nlt b hn
 rw [hw] at h1
 exact ⟨hn, mg_old h hx hw hm h1 h2⟩
theorem mg_size : w.heap.size ≤ w'.heap.size := by have := hx.size; rwa [hw] at this
theorem mg_dat (b : Nat) (hA : ¬ Av N ρ Φ b) (hb : b < w.heap.size) : w'.heap[b]? = w.heap[b]? ∧ ¬ Av N W (locM st Φ Φx) b := by
 refine ⟨mg_old h hx hw hm hb fun hp => hA (mg_px h hx hw hm hp), ?_⟩
 rintro (hn | ⟨k, row, o, h1, h2, h3⟩)
 ·exact hA (.inl hn)
 ·unfold locM at h3
  split at h3
  ·rename_i hs
   obtain ⟨g1, _⟩ := hm.keep k row h1 hs
   exact hA (.inr ⟨k, row, o, g1, h2, h3⟩)
  ·cases h3
  ·rename_i kx hs
   obtain ⟨rowx, g1, _, g2, _⟩ := hm.got k row kx h1 hs
   rcases (hx.mine kx rowx b o g1 g2 h3).2 with hp | hp
   ·exact hA (mg_px h hx hw hm hp)
   ·rw [hw] at hp; omega
theorem mg_av {b : Nat} (hb : Av N W (locM st Φ Φx) b) : Av (Nx N ρ im Φ) τx Φx b := by
 rcases hb with hn | ⟨k, row, o, h1, h2, h3⟩
 ·exact .inl (.inl hn)
 ·unfold locM at h3
  split at h3
  ·rename_i hs
   obtain ⟨g1, g2⟩ := hm.keep k row h1 hs
   exact .inl (.inr ⟨k, row, o, g1, h2, h3, g2 h2⟩)
  ·cases h3
  ·rename_i kx hs
   obtain ⟨rowx, g1, _, g2, _⟩ := hm.got k row kx h1 hs
   exact .inr ⟨kx, rowx, o, g1, g2, h3⟩
theorem mg_hd (x : AV) (v : Value) (hd : Hd ρ Φ w x v) : Hd W (locM st Φ Φx) w' x v := by
 have grow : ∀ {b : Nat} {n : Nat}, (∃ c e, w.heap[b]? = some (.cells c e (0, 0)) ∧ n ≤ c.size) → ∃ c e, w'.heap[b]? = some (.cells c e (0, 0)) ∧ n ≤ c.size := by
  rintro b n ⟨c, e, h1, h2⟩
  obtain ⟨c', e', h3, h4⟩ := hx.grows b c e (by rw [hw]; exact h1)
  exact ⟨c', e', h3, by omega⟩
 cases x with
 | hs p o n =>
  obtain ⟨a, cap, rfl, hc, hz, row, h0, hg, hh⟩ := hd
  obtain ⟨row', h1, h2⟩ := hm.all _ _ h0
  refine ⟨a, cap, rfl, hc, hz, row', h1, by omega, fun he es xs hb => ?_⟩
  have heq : row.gen = p.g := by omega
  cases hs : st p.r with
  | keep =>
   obtain ⟨g1, g2⟩ := hm.keep _ row' h1 hs
   rw [h0] at g1
   obtain rfl := Option.some.inj g1
   have := hh heq es xs hb
   rw [show locM st Φ Φx p.r = Φ p.r by simp [locM, hs]]
   cases hp : Φ p.r with
   | none => rw [hp] at this; exact this
   | some y =>
    obtain ⟨b, ob⟩ := y
    rw [hp] at this
    exact ⟨this.1, fun ho => grow (this.2 ho)⟩
  | dead =>
   have := (hm.dead _ row' h1 hs).2.2.2.2 row h0
   omega
  | got kx =>
   obtain ⟨rowx, g1, _, g2, g3, g4, g5, g6⟩ := hm.got _ row' kx h1 hs
   rcases g6 with ⟨_, g6⟩ | ⟨row0, k1, k2, k3, k4, k5, k6⟩
   ·have := g6 row h0; omega
   ·rw [h0] at k1
    obtain rfl := Option.some.inj k1
    rw [show locM st Φ Φx p.r = Φx kx by simp [locM, hs], k4]
    rw [hb] at k5
    cases hb0 : row.body with
    | map _ _ => rw [hb0] at k5; exact k5.elim
    | cells es0 xs0 =>
     rw [hb0] at k5
     obtain rfl : es0 = es := k5
     have := hh heq _ xs0 hb0
     cases hp : Φ p.r with
     | none => rw [hp] at this; exact this
     | some y =>
      obtain ⟨b, ob⟩ := y
      rw [hp] at this
      exact ⟨this.1, fun ho => grow (this.2 k3)⟩
 | hp p i j =>
  obtain ⟨a, rfl, row, h0, hg, hh⟩ := hd
  obtain ⟨row', h1, h2⟩ := hm.all _ _ h0
  refine ⟨a, rfl, row', h1, by omega, fun he es xs hb => ?_⟩
  have heq : row.gen = p.g := by omega
  unfold locM
  split
  ·rename_i hs
   obtain ⟨g1, g2⟩ := hm.keep _ row' h1 hs
   rw [h0] at g1
   obtain rfl := Option.some.inj g1
   exact hh heq es xs hb
  ·rename_i hs
   have := (hm.dead _ row' h1 hs).2.2.2.2 row h0
   omega
  ·rename_i kx hs
   obtain ⟨rowx, g1, _, g2, g3, g4, g5, g6⟩ := hm.got _ row' kx h1 hs
   rcases g6 with ⟨_, g6⟩ | ⟨row0, k1, k2, k3, k4, k5, k6⟩
   ·have := g6 row h0; omega
   ·rw [h0] at k1
    obtain rfl := Option.some.inj k1
    rw [k4]
    rw [hb] at k5
    cases hb0 : row.body with
    | map _ _ => rw [hb0] at k5; exact k5.elim
    | cells es0 xs0 =>
     rw [hb0] at k5
     obtain rfl : es0 = es := k5
     exact hh heq _ xs0 hb0
 | hm p =>
  obtain ⟨m, rfl, row, h0, hg, hh⟩ := hd
  obtain ⟨row', h1, h2⟩ := hm.all _ _ h0
  refine ⟨m, rfl, row', h1, by omega, fun he => ?_⟩
  have heq : row.gen = p.g := by omega
  unfold locM
  split
  ·rename_i hs
   exact hh heq
  ·rename_i hs
   have := (hm.dead _ row' h1 hs).2.2.2.2 row h0
   omega
  ·rename_i kx hs
   obtain ⟨rowx, g1, _, g2, g3, g4, g5, g6⟩ := hm.got _ row' kx h1 hs
   rcases g6 with ⟨_, g6⟩ | ⟨row0, k1, k2, k3, k4, k5, k6⟩
   ·have := g6 row h0; omega
   ·rw [k4]; exact hh heq
 | _ => exact hd.elim
theorem mg_hs {kx k g n : Nat} {v : Value} (ht : HandleTo W τx st kx k g) (hv : Hd τx Φx w' (.hs ⟨kx, 0⟩ 0 n) v) : Hd W (locM st Φ Φx) w' (.hs ⟨k, g⟩ 0 n) v := by
 obtain ⟨hs, _, row, h1, rfl⟩ := ht
 obtain ⟨a, cap, rfl, hc, hz, rowx, h0, hg, hh⟩ := hv
 refine ⟨a, cap, rfl, hc, hz, row, h1, Nat.le_refl _, fun _ es xs hb => ?_⟩
 obtain ⟨rowx', g1, g0, g2, g3, g4, g5, g6⟩ := hm.got _ row kx h1 hs
 rw [show lget τx kx = some rowx from h0] at g1
 obtain rfl := Option.some.inj g1
 simp only [locM, hs]
 have hbx : ∃ xs', rowx.body = .cells es xs' := by
  unfold BodyFrom at g5
  rw [hb] at g5
  cases hbox : row.box with
  | false => rw [hbox] at g5; exact ⟨xs, g5.symm⟩
  | true =>
   rw [hbox] at g5
   cases hbx : rowx.body with
   | map _ _ => rw [hbx] at g5; exact g5.elim
   | cells es' xs' =>
    rw [hbx] at g5
    split at g5
    ·rename_i e1 e2; simp at e1 e2; exact ⟨xs', by rw [e1.1, g5.1, ← e2.1]⟩
    ·exact g5.elim
    ·rename_i e; cases e
 obtain ⟨xs', hbx⟩ := hbx
 have := hh g0 es xs' hbx
 cases hp : Φx kx with
 | none => rw [hp] at this; exact this
 | some y =>
  rw [hp] at this
  exact ⟨this.1, fun _ => this.2 g2⟩
theorem mg_hp {kx k g : Nat} {v : Value} (ht : HandleTo W τx st kx k g) (hv : Hd τx Φx w' (.hp ⟨kx, 0⟩ 0 0) v) : Hd W (locM st Φ Φx) w' (.hp ⟨k, g⟩ 0 0) v := by
 obtain ⟨hs, _, row, h1, rfl⟩ := ht
 obtain ⟨a, rfl, rowx, h0, hg, hh⟩ := hv
 refine ⟨a, rfl, row, h1, Nat.le_refl _, fun _ es xs hb => ?_⟩
 obtain ⟨rowx', g1, g0, g2, g3, g4, g5, g6⟩ := hm.got _ row kx h1 hs
 rw [show lget τx kx = some rowx from h0] at g1
 obtain rfl := Option.some.inj g1
 simp only [locM, hs]
 have hbx : ∃ es' xs', rowx.body = .cells es' xs' := by
  unfold BodyFrom at g5
  rw [hb] at g5
  cases hbox : row.box with
  | false => rw [hbox] at g5; exact ⟨es, xs, g5.symm⟩
  | true =>
   rw [hbox] at g5
   cases hbx : rowx.body with
   | map _ _ => rw [hbx] at g5; exact g5.elim
   | cells es' xs' => exact ⟨es', xs', rfl⟩
 obtain ⟨es', xs', hbx⟩ := hbx
 obtain ⟨b, ob, k1, k2⟩ := hh g0 es' xs' hbx
 exact ⟨b, ob, k1, by simpa using k2⟩
theorem mg_hm {kx k g : Nat} {v : Value} (ht : HandleTo W τx st kx k g) (hv : Hd τx Φx w' (.hm ⟨kx, 0⟩) v) : Hd W (locM st Φ Φx) w' (.hm ⟨k, g⟩) v := by
 obtain ⟨hs, _, row, h1, rfl⟩ := ht
 obtain ⟨m, rfl, rowx, h0, hg, hh⟩ := hv
 refine ⟨m, rfl, row, h1, Nat.le_refl _, fun _ => ?_⟩
 obtain ⟨rowx', g1, g0, g2, g3, g4, g5, g6⟩ := hm.got _ row kx h1 hs
 rw [show lget τx kx = some rowx from h0] at g1
 obtain rfl := Option.some.inj g1
 simp only [locM, hs]
 exact hh g0
theorem mg_data {x : AV} {v : Value} {H : AV → Value → Prop} (hv : Rep w' (Av (Nx N ρ im Φ) τx Φx) noH x v) : Rep w' (Av N W (locM st Φ Φx)) H x v :=
 Rep.mono (fun b hb _ => ⟨rfl, fun hb' => hb (mg_av h hx hw hm hb')⟩) (Nat.le_refl _) (fun _ _ h => h.elim) hv
theorem mg_cell {c c' : AV} {v : Value} (hv : R (Nx N ρ im Φ) τx Φx w' c v) (hc : CellFrom W τx st c c') : R N W (locM st Φ Φx) w' c' v := by
 rcases hc with ⟨rfl, h1, h2, h3, h4, h5⟩ | ⟨kx, n, k, g, rfl, rfl, ht⟩ | ⟨kx, k, g, rfl, rfl, ht⟩
 ·refine mg_data h hx hw hm (?_ : Rep w' _ noH c' v)
  cases c' with
  | hs p o n => exact absurd rfl (h1 _ _ _)
  | hp p i j => exact absurd rfl (h2 _ _ _)
  | hm p => exact absurd rfl (h3 _)
  | agg cs => exact absurd rfl (h4 _)
  | tup cs => exact absurd rfl (h5 _)
  | _ => simpa only [Rep] using hv
 ·exact mg_hs h hx hw hm ht hv
 ·exact mg_hm h hx hw hm ht hv
theorem mg_cells : ∀ {cs cs' : List AV} {vs : List Value}, RL (Nx N ρ im Φ) τx Φx w' cs vs → CellsFrom W τx st cs cs' → RL N W (locM st Φ Φx) w' cs' vs
 | [], [], [], _, _ => trivial
 | c :: cs, c' :: cs', v :: vs, hr, hc => ⟨mg_cell h hx hw hm hr.1 hc.1, mg_cells hr.2 hc.2⟩
 | [], _ :: _, _, _, hc => hc.elim
 | _ :: _, [], _, _, hc => hc.elim
 | [], [], _ :: _, hr, _ => hr.elim
 | _ :: _, _ :: _, [], hr, _ => hr.elim
theorem mg_val {x x' : AV} {v : Value} (hv : R (Nx N ρ im Φ) τx Φx w' x v) (hc : ValFrom W τx st x x') : R N W (locM st Φ Φx) w' x' v := by
 by_cases ha : ∃ cs, x = .agg cs
 ·obtain ⟨cs, rfl⟩ := ha
  obtain ⟨vs, rfl, h1, h2⟩ := hv
  cases x' with
  | agg cs' => exact ⟨vs, rfl, h1, mg_cells h hx hw hm h2 hc⟩
  | _ => exact hc.elim
 ·have hc' : CellFrom W τx st x x' := by
   cases x <;> first | exact absurd ⟨_, rfl⟩ ha | (cases x' <;> first | exact hc | exact hc.elim)
  exact mg_cell h hx hw hm hv hc'
theorem mg_row {k : Nat} {row : Row} (hk : lget W k = some row) : RowRel w' N W (locM st Φ Φx) k row := by
 cases hs : st k with
 | keep =>
  obtain ⟨g1, g2⟩ := hm.keep k row hk hs
  have hrr := h.rows k row g1
  have hl : locM st Φ Φx k = Φ k := by simp [locM, hs]
  unfold RowRel at hrr ⊢
  split at hrr
  ·rw [hl]
   cases hp : Φ k with
   | none => rw [hp] at hrr; exact hrr
   | some y =>
    obtain ⟨b, ob⟩ := y
    rw [hp] at hrr
    obtain ⟨h1, h2, h3, h4⟩ := hrr
    have hbb : w'.heap[b]? = w.heap[b]? := by
     by_cases ho : row.own = true
     ·exact (mg_own h hx hw hm g1 ho (g2 ho) hp).2
     ·exact (mg_dat h hx hw hm b (h3 (by simpa using ho)) h2).1
    refine ⟨RepRow.mono (mg_dat h hx hw hm) (mg_size h hx hw hm) ?_ hbb h1, Nat.lt_of_lt_of_le h2 (mg_size h hx hw hm), fun ho => (mg_dat h hx hw hm b (h3 ho) h2).2, fun ho => ?_⟩
    ·intro x v hv
     split at hv
     ·rename_i hbx; rw [if_pos hbx]; exact mg_hd h hx hw hm x v hv
     ·exact hv.elim
    ·obtain ⟨c, e, c1, c2⟩ := h4 ho
     exact ⟨c, e, hbb.trans c1, c2⟩
  ·obtain ⟨b, es, clk, e1, e2, e3, e4, e5⟩ := hrr
   exact ⟨b, es, clk, by rw [hl]; exact e1, by rw [(mg_own h hx hw hm g1 e3 (g2 e3) e1).2]; exact e2, e3, e4, EntsRel.mono (mg_dat h hx hw hm) (mg_size h hx hw hm) e5⟩
 | dead =>
  obtain ⟨g1, g2, g3, _⟩ := hm.dead k row hk hs
  unfold RowRel
  simp only [g3, locM, hs]
  exact ⟨trivial, g2⟩
 | got kx =>
  obtain ⟨rowx, g1, g0, g2, g3, g4, g5, g6⟩ := hm.got k row kx hk hs
  have hrr := hx.rows kx rowx g1
  have hl : locM st Φ Φx k = Φx kx := by simp [locM, hs]
  unfold BodyFrom at g5
  unfold RowRel at hrr ⊢
  rw [hl]
  have hA : ∀ b, ¬ Av (Nx N ρ im Φ) τx Φx b → b < w'.heap.size → w'.heap[b]? = w'.heap[b]? ∧ ¬ Av N W (locM st Φ Φx) b := fun b hb _ => ⟨rfl, fun hb' => hb (mg_av h hx hw hm hb')⟩
  cases hbx : row.box with
  | false =>
   rw [hbx] at g5 g4
   simp only at g5
   rw [g5]
   split at hrr
   ·rename_i es xs hb
    rw [← g4] at hrr
    cases hp : Φx kx with
    | none => rw [hp] at hrr; exact hrr
    | some y =>
     obtain ⟨b, ob⟩ := y
     rw [hp] at hrr
     obtain ⟨h1, h2, h3, h4⟩ := hrr
     exact ⟨RepRow.mono hA (Nat.le_refl _) (fun _ _ h => h) rfl (by simpa using h1), h2, (fun ho => by rw [g3] at ho; cases ho), fun _ => h4 g2⟩
   ·obtain ⟨b, es, clk, e1, e2, e3, e4, e5⟩ := hrr
    exact ⟨b, es, clk, e1, e2, g3, rfl, EntsRel.mono hA (Nat.le_refl _) e5⟩
  | true =>
   rw [hbx] at g5 g4
   split at g5
   ·rename_i es x es' x' e1 e2
    obtain ⟨rfl, g5⟩ := g5
    rw [e1] at hrr
    simp only at hrr
    rw [← g4] at hrr
    cases hp : Φx kx with
    | none => rw [hp] at hrr; cases hrr.2
    | some y =>
     obtain ⟨b, ob⟩ := y
     rw [hp] at hrr
     obtain ⟨h1, h2, h3, h4⟩ := hrr
     rw [if_pos rfl] at h1
     obtain ⟨⟨v, v1, v2, v3⟩, _⟩ := h1
     simp only [e2, if_true]
     exact ⟨⟨⟨v, v1, v2, mg_val h hx hw hm v3 g5⟩, trivial⟩, h2, (fun ho => by rw [g3] at ho; cases ho), fun _ => h4 g2⟩
   ·exact g5.elim
   ·rename_i e; cases e
theorem Core.merge : Core N PO w0 ⟨env, W⟩ ce w' (locM st Φ Φx) := by
 have own : ∀ k row b o, lget W k = some row → row.own = true → locM st Φ Φx k = some (b, o) → (st k = .keep ∧ lget ρ k = some row ∧ Φ k = some (b, o) ∧ Nx N ρ im Φ b) ∨ ∃ kx rowx, st k = .got kx ∧ lget τx kx = some rowx ∧ rowx.own = true ∧ Φx kx = some (b, o) := by
  intro k row b o hk ho hb
  unfold locM at hb
  split at hb
  ·rename_i hs
   obtain ⟨g1, g2⟩ := hm.keep k row hk hs
   exact .inl ⟨hs, g1, hb, (mg_own h hx hw hm g1 ho (g2 ho) hb).1⟩
  ·cases hb
  ·rename_i kx hs
   obtain ⟨rowx, g1, _, g2, _⟩ := hm.got k row kx hk hs
   exact .inr ⟨kx, rowx, hs, g1, g2, hb⟩
 refine ⟨by rw [hx.os, hw, h.os], by rw [hx.tape, hw, h.tape], by rw [hx.output, hw, h.output], Nat.le_trans h.size (mg_size h hx hw hm), fun b hb hp => ?_, h.nlt, fun b c e hc => ?_, fun k row hk hg0 => ?_, fun t => Rep.mono (mg_dat h hx hw hm) (mg_size h hx hw hm) (mg_hd h hx hw hm) (h.env t), fun k row hk => mg_row h hx hw hm hk, ?_, ?_⟩
 ·rw [mg_old h hx hw hm (Nat.lt_of_lt_of_le hb h.size), h.old b hb hp]
  rintro ⟨r, row, o, h1, h2, h3, _⟩
  rcases (h.mine r row b o h1 h2 h3).2 with e | e
  ·exact hp e
  ·omega
 ·obtain ⟨c1, e1, h1, h2⟩ := h.grows b c e hc
  obtain ⟨c2, e2, h3, h4⟩ := hx.grows b c1 e1 (by rw [hw]; exact h1)
  exact ⟨c2, e2, h3, Nat.le_trans h2 h4⟩
 ·have hk : lget W k = some row := hk
  cases hs : st k with
  | keep =>
   obtain ⟨g1, _⟩ := hm.keep k row hk hs
   simpa [locM, hs] using h.gen0 k row g1 hg0
  | dead => exact absurd hg0 (hm.dead k row hk hs).2.2.2.1
  | got kx =>
   obtain ⟨rowx, g1, _, g2, g3, g4, g5, g6⟩ := hm.got k row kx hk hs
   rcases g6 with ⟨g6, _⟩ | ⟨row0, k1, k2, k3, k4, k5, k6⟩
   ·exact absurd hg0 g6
   ·obtain ⟨q1, row1, q2, q3, q4⟩ := h.gen0 k row0 k1 (by omega)
    refine ⟨by simp only [locM, hs]; exact k4.trans q1, row1, q2, ?_, q4.trans k6⟩
    cases hr1 : row1.body <;> cases hr0 : row0.body <;> cases hr2 : row.body <;> simp_all [sameShape]
 ·intro r r' row row' b o o' h1 h2 h3 h4 h5 h6
  rcases own r row b o h1 h3 h5 with ⟨s1, s2, s3, s4⟩ | ⟨kx, rowx, s1, s2, s3, s4⟩
  ·rcases own r' row' b o' h2 h4 h6 with ⟨t1, t2, t3, t4⟩ | ⟨kx', rowx', t1, t2, t3, t4⟩
   ·exact h.inj _ _ _ _ b _ _ s2 t2 h3 h4 s3 t3
   ·exact absurd s4 (hx.mine kx' rowx' b o' t2 t3 t4).1
  ·rcases own r' row' b o' h2 h4 h6 with ⟨t1, t2, t3, t4⟩ | ⟨kx', rowx', t1, t2, t3, t4⟩
   ·exact absurd t4 (hx.mine kx rowx b o s2 s3 s4).1
   ·have := hx.inj _ _ _ _ b _ _ s2 t2 s3 t3 s4 t4
    subst this
    exact hm.inj r r' kx (by rw [show lget W r = some row from h1]; rfl) (by rw [show lget W r' = some row' from h2]; rfl) s1 t1
 ·intro r row b o h1 h3 h5
  rcases own r row b o h1 h3 h5 with ⟨s1, s2, s3, s4⟩ | ⟨kx, rowx, s1, s2, s3, s4⟩
  ·exact h.mine r row b o s2 h3 s3
  ·obtain ⟨m1, m2⟩ := hx.mine kx rowx b o s2 s3 s4
   refine ⟨fun hn => m1 (.inl hn), ?_⟩
   rcases m2 with ⟨r2, row2, o2, e1, e2, e3, _⟩ | e
   ·exact (h.mine r2 row2 b o2 e1 e2 e3).2
   ·rw [hw] at e
    exact .inr (Nat.le_trans h.size e)
end
end Go.AL
end
section
namespace Go.AL
section
variable {rows ρ : Rows} {subs subs' : List (Nat × Body)}
theorem packOut_subs : ∀ {j : Nat} {xs ys : List AV}, (∀ m, j ≤ m → lget subs m = lget subs' m) → packOut rows subs j xs ys → packOut rows subs' j xs ys := by
 intro j xs ys
 fun_induction packOut rows subs j xs ys with
 | case1 => intro _ _; trivial
 | case2 j p o n xs ys ih =>
  intro hs h
  refine ⟨?_, ih (fun m hm => hs m (by omega)) h.2⟩
  rw [← hs j (Nat.le_refl _)]; exact h.1
 | case3 j p xs ys ih =>
  intro hs h
  refine ⟨?_, ih (fun m hm => hs m (by omega)) h.2⟩
  rw [← hs j (Nat.le_refl _)]; exact h.1
 | case4 j x xs y ys hn1 hn2 ih =>
  intro hs h
  have : packOut rows subs' j (x :: xs) (y :: ys) = (cellOut rows x y ∧ packOut rows subs' (j + 1) xs ys) := by
   rw [packOut]
   ·exact hn1
   ·exact hn2
  rw [this]
  exact ⟨h.1, ih (fun m hm => hs m (by omega)) h.2⟩
 | case5 => intro _ h; exact h.elim
theorem hsOut_frz (hf : Frz rows ρ) {p : Pl} {o n es : Nat} {ys : List AV} (h : hsOut rows p o n es ys) : hsOut ρ p o n es ys := by
 unfold hsOut at h ⊢
 split at h
 ·rename_i g own es' xs h0
  obtain ⟨ow, h1, _⟩ := hf.get h0
  rw [h1]
  exact h
 ·exact h.elim
theorem cellOut_frz (hf : Frz rows ρ) {x y : AV} (h : cellOut rows x y) : cellOut ρ x y := by
 unfold cellOut at h ⊢
 split at h
 ·trivial
 ·exact h
 ·trivial
 ·exact h
 ·exact h
 ·exact h
 ·exact h
 ·exact hsOut_frz hf h
 ·exact h.elim
theorem packOut_frz (hf : Frz rows ρ) : ∀ {j : Nat} {xs ys : List AV}, (∀ r ∈ packKeys xs ys, lget ρ r = lget rows r) → packOut rows subs j xs ys → packOut ρ subs j xs ys := by
 intro j xs ys
 fun_induction packOut rows subs j xs ys with
 | case1 => intro _ _; trivial
 | case2 j p o n xs ys ih =>
  intro hk h
  refine ⟨?_, ih (fun r hr => hk r (.tail _ hr)) h.2⟩
  rw [hk p.r (.head _)]; exact h.1
 | case3 j p xs ys ih =>
  intro hk h
  refine ⟨?_, ih (fun r hr => hk r (.tail _ hr)) h.2⟩
  rw [hk p.r (.head _)]; exact h.1
 | case4 j x xs y ys hn1 hn2 ih =>
  intro hk h
  have : packOut ρ subs j (x :: xs) (y :: ys) = (cellOut ρ x y ∧ packOut ρ subs (j + 1) xs ys) := by
   rw [packOut]
   ·exact hn1
   ·exact hn2
  rw [this]
  refine ⟨cellOut_frz hf h.1, ih (fun r hr => hk r ?_) h.2⟩
  rcases packKeys_cons x y xs ys with e | ⟨q, e⟩ <;> rw [e]
  ·exact hr
  ·exact .tail _ hr
 | case5 => intro _ h; exact h.elim
variable {C : FuncId → List PA → CRes → Prop} {d : Bool} {env : Env}
structure PackedCells (rows : Rows) (j : Nat) (l : List AV) (p : Pack) : Prop where
 out : packOut rows p.subs j l p.cs
 keys : p.rows.map (·.1) = packKeys l p.cs
 got : ∀ q ∈ p.rows, lget rows q.1 = some q.2
 frz : ∀ r ∈ cellKeys l p.cs, ∃ row, lget rows r = some row ∧ row.own = false
 sub : ∀ m, m < j → lget p.subs m = none
theorem packCells_sound : ∀ {l : List AV} {j : Nat} {rs rr : List Nat} {K : Pack → List Nat → List Nat → Prop}, (packCells j l).wp C d ⟨env, rows⟩ rs rr K → ∃ p rs' rr', K p rs' rr' ∧ PackedCells rows j l p
 | [], j, rs, rr, K, h => ⟨_, _, _, h, trivial, rfl, (fun _ h => by cases h), (fun _ h => by cases h), fun _ _ => rfl⟩
 | x :: l, j, rs, rr, K, h => by
  rw [packCells, RM.wp_bind] at h
  -- a cell that is data
  have plain : ∀ {y : AV} {rs1 rr1 : List Nat}, (packCells (j + 1) l).wp C d ⟨env, rows⟩ rs1 rr1 (fun r rs rr => K ⟨y :: r.cs, r.subs, r.rows⟩ rs rr) → cellOut rows x y → (∀ p o n, x = .hs p o n → y ≠ .nst) → (∀ p, x = .hm p → y ≠ .nst) →
    (∀ p o n es ys, x = .hs p o n → y = .sl es ys → ∃ row, lget rows p.r = some row ∧ row.own = false) → ∃ p rs' rr', K p rs' rr' ∧ PackedCells rows j (x :: l) p := by
   intro y rs1 rr1 h hc hn1 hn2 hd
   obtain ⟨p, rs', rr', h, hp⟩ := packCells_sound h
   refine ⟨_, _, _, h, ?_, ?_, hp.got, ?_, fun m hm => hp.sub m (by omega)⟩
   ·have : packOut rows p.subs j (x :: l) (y :: p.cs) = (cellOut rows x y ∧ packOut rows p.subs (j + 1) l p.cs) := by
     rw [packOut]
     ·intro q o n e1 e2; exact hn1 q o n e1 e2
     ·intro q e1 e2; exact hn2 q e1 e2
    rw [this]
    exact ⟨hc, hp.out⟩
   ·show p.rows.map (·.1) = packKeys (x :: l) (y :: p.cs)
    rw [hp.keys]
    have hy : y ≠ .nst := by
     rintro rfl
     unfold cellOut at hc
     cases x <;> simp at hc
    cases x <;> cases y <;> first | rfl | exact absurd rfl hy
   ·intro r hr
    show ∃ row, lget rows r = some row ∧ row.own = false
    have hr : r ∈ cellKeys (x :: l) (y :: p.cs) := hr
    by_cases hxy : ∃ q o n es ys, x = .hs q o n ∧ y = .sl es ys
    ·obtain ⟨q, o, n, es, ys, rfl, rfl⟩ := hxy
     simp only [cellKeys, List.mem_cons] at hr
     rcases hr with rfl | hr
     ·exact hd _ _ _ _ _ rfl rfl
     ·exact hp.frz r hr
    ·have e : cellKeys (x :: l) (y :: p.cs) = cellKeys l p.cs := by
      cases x <;> cases y <;> first | rfl | exact absurd ⟨_, _, _, _, _, rfl, rfl⟩ hxy
     rw [e] at hr
     exact hp.frz r hr
  have owned : ∀ {b : Body} {k : Nat} {w : Row} {q : Pl} {rs1 rr1 : List Nat}, (packCells (j + 1) l).wp C d ⟨env, rows⟩ rs1 rr1 (fun r rs rr => K ⟨.nst :: r.cs, (j, b) :: r.subs, (k, w) :: r.rows⟩ rs rr) → lget rows k = some w → k = q.r →
    ((∃ n, x = .hs q 0 n ∧ ∃ es zs, w = ⟨q.g, true, false, .cells es zs⟩ ∧ n ≤ zs.length ∧ b = .cells es (zs.take n)) ∨ (x = .hm q ∧ ∃ kk es, w = ⟨q.g, true, false, .map kk es⟩ ∧ b = .map kk es)) →
    ∃ p rs' rr', K p rs' rr' ∧ PackedCells rows j (x :: l) p := by
   intro b k w q rs1 rr1 h hk hkq hx
   subst hkq
   obtain ⟨p, rs', rr', h, hp⟩ := packCells_sound h
   have hrest : packOut rows ((j, b) :: p.subs) (j + 1) l p.cs := packOut_subs (fun m hm => by rw [lget, if_neg (by omega)]) hp.out
   have hj : lget ((j, b) :: p.subs) j = some b := by rw [lget, if_pos rfl]
   have hgot : ∀ q' ∈ (q.r, w) :: p.rows, lget rows q'.1 = some q'.2 := by
    intro q' hq'
    rcases List.mem_cons.1 hq' with rfl | hq'
    ·exact hk
    ·exact hp.got q' hq'
   have hsub : ∀ m, m < j → lget ((j, b) :: p.subs) m = none := fun m hm => by rw [lget, if_neg (by omega)]; exact hp.sub m (by omega)
   rcases hx with ⟨n, rfl, es, zs, rfl, hn, rfl⟩ | ⟨rfl, kk, es, rfl, rfl⟩
   ·refine ⟨_, _, _, h, ⟨?_, hrest⟩, ?_, hgot, ?_, hsub⟩
    ·rw [hk, hj]
     exact ⟨rfl, rfl, hn, rfl, rfl⟩
    ·simp [packKeys, hp.keys]
    ·intro r hr
     exact hp.frz r (by simpa [cellKeys] using hr)
   ·refine ⟨_, _, _, h, ⟨?_, hrest⟩, ?_, hgot, ?_, hsub⟩
    ·rw [hk, hj]
     exact ⟨rfl, rfl, rfl⟩
    ·simp [packKeys, hp.keys]
    ·intro r hr
     exact hp.frz r (by simpa [cellKeys] using hr)
  cases x with
  | hs p o n =>
   simp only [packCell, rd, RM.wp] at h
   split at h
   ·exact h.elim
   ·rename_i w hw0
    split at h
    ·rename_i hgen
     split at h
     ·rename_i es xs hb
      split at h
      ·exact h.elim
      ·rename_i hbox
       split at h
       ·rename_i hown
        obtain ⟨⟨rfl, hn⟩, h⟩ := h
        simp only [RM.wp_bind, RM.wp] at h
        refine owned h hw0 rfl (.inl ⟨n, rfl, es, xs, ?_, hn, rfl⟩)
        obtain ⟨g, ow, bx, bd⟩ := w
        simp only at hgen hb hbox hown
        subst hgen hb hown
        simp at hbox
        subst hbox
        rfl
       ·rename_i hown
        obtain ⟨hlen, h⟩ := h
        have hlen : o + n ≤ xs.length := hlen
        simp only [RM.wp_bind, RM.wp] at h
        refine plain h ?_ (by simp) (by simp) (fun p' o' n' es' ys' e _ => ?_)
        ·obtain ⟨g, ow, bx, bd⟩ := w
         simp only at hgen hb hbox hown
         subst hgen hb
         simp at hbox
         subst hbox
         simp only [cellOut, hsOut, hw0]
         exact ⟨trivial, hlen, trivial, trivial⟩
        ·obtain ⟨rfl, _, _⟩ := by simpa using e
         exact ⟨w, hw0, by simpa using hown⟩
     ·exact h.elim
    ·exact h.elim
  | hm p =>
   simp only [packCell, rd, RM.wp] at h
   split at h
   ·exact h.elim
   ·rename_i w hw0
    split at h
    ·rename_i hgen
     split at h
     ·rename_i kk es hb
      split at h
      ·rename_i hown
       simp only [RM.wp_bind, RM.wp] at h
       refine owned h hw0 rfl (.inr ⟨rfl, kk, es, ?_, rfl⟩)
       obtain ⟨g, ow, bx, bd⟩ := w
       simp only at hgen hb hown
       subst hgen hb
       obtain ⟨rfl, rfl⟩ := hown
       rfl
      ·exact h.elim
     ·exact h.elim
    ·exact h.elim
  | hp p i j => exact h.elim
  | tup cs => exact h.elim
  | agg cs => exact h.elim
  | nst => exact h.elim
  | it => exact h.elim
  | cl f cs => exact h.elim
  | _ =>
   simp only [packCell, RM.wp, RM.wp_bind] at h
   exact plain h (by simp [cellOut]) (by simp) (by simp) (by simp)
end
end Go.AL
end
section
namespace Go.AL
theorem inL_iff {x : Nat} : ∀ {l : List Nat}, inL x l = true ↔ x ∈ l
 | [] => by simp [inL]
 | y :: l => by
  unfold inL
  by_cases h : y = x
  ·simp [h]
  ·rw [if_neg h, inL_iff, List.mem_cons]
   exact ⟨.inr, fun h' => h'.resolve_left fun e => h e.symm⟩
theorem distinct_nodup : ∀ {l : List Nat}, distinct l = true → l.Nodup
 | [], _ => List.nodup_nil
 | x :: l, h => by
  unfold distinct at h
  split at h
  ·cases h
  ·rename_i hn
   rw [List.nodup_cons]
   exact ⟨fun hm => hn (inL_iff.2 hm), distinct_nodup h⟩
theorem disjB_spec : ∀ {a b : List Nat}, disjB a b = true → ∀ x ∈ a, x ∉ b
 | [], _, _, _, h => by cases h
 | y :: a, b, h, x, hx => by
  unfold disjB at h
  split at h
  ·cases h
  ·rename_i hn
   rcases List.mem_cons.1 hx with rfl | hx
   ·exact fun hm => hn (inL_iff.2 hm)
   ·exact disjB_spec h x hx
theorem notIn_of : ∀ {wr : Wr} {r : Nat}, r ∉ wr.map (·.1) → notIn r wr = true
 | [], _, _ => rfl
 | (k, w) :: l, r, h => by
  simp only [List.map_cons, List.mem_cons, not_or] at h
  unfold notIn
  rw [if_neg (fun e => h.1 e.symm)]
  exact notIn_of h.2
section
variable {N PO : Nat → Prop} {w0 w1 : Base} {w : World} {env : Env} {rows : Rows} {ce : Nat → Value} {Φ : Nat → Loc}
variable {P : Program} {C : FuncId → List PA → CRes → Prop} {d : Bool} {rs rr : List Nat}
theorem packVal_sound {x : AV} {rs rr : List Nat} {K : AV × Pack → List Nat → List Nat → Prop} (h : (packVal x).wp C d ⟨env, rows⟩ rs rr K) : ∃ y p rs' rr', K (y, p) rs' rr' ∧ PackedCells rows 0 (cellsOf x) p ∧ x.isAgg = y.isAgg ∧ cellsOf y = p.cs := by
 by_cases ha : ∃ cs, x = .agg cs
 ·obtain ⟨cs, rfl⟩ := ha
  rw [packVal, RM.wp_bind] at h
  obtain ⟨p, rs', rr', h, hp⟩ := packCells_sound h
  exact ⟨_, p, _, _, h, hp, rfl, rfl⟩
 ·have hc : cellsOf x = [x] := by cases x <;> first | rfl | exact absurd ⟨_, rfl⟩ ha
  have h' : ((packCells 0 [x]).bind fun r => .ret (at_ r.cs 0, r)).wp C d ⟨env, rows⟩ rs rr K := by
   cases x <;> first | exact h | exact absurd ⟨_, rfl⟩ ha
  rw [RM.wp_bind] at h'
  obtain ⟨p, rs', rr', h', hp⟩ := packCells_sound h'
  obtain ⟨c, hcs, hna⟩ : ∃ c, p.cs = [c] ∧ ∀ cs, c ≠ .agg cs := by
   have ho := hp.out
   match hq : p.cs with
   | [] => rw [hq] at ho; cases x <;> simp [packOut] at ho
   | [c] =>
    refine ⟨c, rfl, ?_⟩
    rintro cs rfl
    rw [hq] at ho
    cases x <;> simp [packOut, cellOut] at ho
   | c :: c2 :: cs =>
    rw [hq] at ho
    exfalso
    cases x <;> cases c <;> simp [packOut] at ho
  refine ⟨_, p, _, _, h', by rw [hc]; exact hp, ?_, ?_⟩
  ·rw [hcs]
   have : x.isAgg = false := by cases x <;> first | rfl | exact absurd ⟨_, rfl⟩ ha
   rw [this]
   show false = c.isAgg
   cases c <;> first | rfl | exact absurd rfl (hna _)
  ·rw [hcs]
   show cellsOf c = [c]
   cases c <;> first | rfl | exact absurd rfl (hna _)

inductive ArgOut (w : World) (N : Nat → Prop) (rows : Rows) (Φ : Nat → Loc) : AV → Value → PA → Option Bk → Wr → Prop
 | data {v : AV} {val : Value} {y : AV} {wr : Wr} : FrzW rows wr → Given w N rows Φ wr y val → ArgOut w N rows Φ v val (.data y) none wr
 | nil {ad : Option Addr} {es : Nat} : ArgOut w N rows Φ .nil (.slice ad 0 0) (.slc (.cells es [])) none []
 | slc {p : Pl} {n es : Nat} {xs : List AV} {val : Value} : Hd rows Φ w (.hs p 0 n) val → lget rows p.r = some ⟨p.g, true, false, .cells es xs⟩ → n ≤ xs.length →
   ArgOut w N rows Φ (.hs p 0 n) val (.slc (.cells es (xs.take n))) (some ⟨p.r, ⟨p.g, true, false, .cells es xs⟩, []⟩) []
 | ptr {p : Pl} {es : Nat} {x y : AV} {pk : Pack} {val : Value} : Hd rows Φ w (.hp p 0 0) val → lget rows p.r = some ⟨p.g, true, true, .cells es [x]⟩ → PackedCells rows 0 (cellsOf x) pk → cellsOf y = pk.cs → x.isAgg = y.isAgg →
   ArgOut w N rows Φ (.hp p 0 0) val (.ptr es y pk.subs) (some ⟨p.r, ⟨p.g, true, true, .cells es [x]⟩, pk.rows⟩) []
 | mp {p : Pl} {kk : KK} {ents : List (AV × AV)} {val : Value} : Hd rows Φ w (.hm p) val → lget rows p.r = some ⟨p.g, true, false, .map kk ents⟩ →
   ArgOut w N rows Φ (.hm p) val (.mp (.map kk ents)) (some ⟨p.r, ⟨p.g, true, false, .map kk ents⟩, []⟩) []
inductive ArgsOut (w : World) (N : Nat → Prop) (rows : Rows) (Φ : Nat → Loc) : List AV → List Value → List PA → List (Option Bk) → Wr → Prop
 | nil : ArgsOut w N rows Φ [] [] [] [] []
 | cons {v : AV} {val : Value} {a : PA} {bk : Option Bk} {wr wr' : Wr} {vs : List AV} {vals : List Value} {as : List PA} {bks : List (Option Bk)} :
   ArgOut w N rows Φ v val a bk wr → ArgsOut w N rows Φ vs vals as bks wr' → ArgsOut w N rows Φ (v :: vs) (val :: vals) (a :: as) (bk :: bks) (wr ++ wr')
theorem row_eq {r : Row} {g : Nat} {o b : Bool} {bd : Body} (h1 : r.gen = g) (h2 : r.own = o) (h3 : r.box = b) (h4 : r.body = bd) : r = ⟨g, o, b, bd⟩ := by
 obtain ⟨_, _, _, _⟩ := r
 simp only at h1 h2 h3 h4
 subst h1 h2 h3 h4
 rfl
theorem argA_sound (hrow : ∀ r row, lget rows r = some row → RowRel w N rows Φ r row) {mem : Bool} {es : Nat} {slcs : List (Nat × Nat)} {v : AV} {val : Value} (hv : R N rows Φ w v val) {rs rr : List Nat} {K : PA × Option Bk × Wr → List Nat → List Nat → Prop}
  (h : (argA mem es slcs v).wp C d ⟨env, rows⟩ rs rr K) : ∃ a bk wr rs' rr', K (a, bk, wr) rs' rr' ∧ ArgOut w N rows Φ v val a bk wr := by
 have rest : ∀ {m : RM (AV × Wr)}, (m.bind fun y => .ret (.data y.1, none, y.2)).wp C d ⟨env, rows⟩ rs rr K →
   (∀ {K : AV × Wr → List Nat → List Nat → Prop}, m.wp C d ⟨env, rows⟩ rs rr K → ∃ y wr rs' rr', K (y, wr) rs' rr' ∧ FrzW rows wr ∧ Given w N rows Φ wr y val) → ∃ a bk wr rs' rr', K (a, bk, wr) rs' rr' ∧ ArgOut w N rows Φ v val a bk wr := by
  intro m h hm
  rw [RM.wp_bind] at h
  obtain ⟨y, wr, rs', rr', h, h1, h2⟩ := hm h
  exact ⟨_, _, _, _, _, h, .data h1 h2⟩
 have restA : ((giveT slcs v).bind fun y => .ret (.data y.1, none, y.2)).wp C d ⟨env, rows⟩ rs rr K → ∃ a bk wr rs' rr', K (a, bk, wr) rs' rr' ∧ ArgOut w N rows Φ v val a bk wr := fun h => rest h fun hm => by
  obtain ⟨y, wr, rs', rr', h1, h2, _, _, _, _, h3⟩ := giveT_sound hrow hv hm
  exact ⟨y, wr, rs', rr', h1, h2, h3⟩
 cases v with
 | hs p o n =>
  unfold argA at h
  simp only at h
  split at h
  ·simp only [rd, RM.wp] at h
   split at h
   ·exact h.elim
   ·rename_i r hr0
    split at h
    ·rename_i hgen
     split at h
     ·rename_i es' xs hb
      split at h
      ·rename_i hob
       obtain ⟨⟨rfl, hn⟩, h⟩ := h
       have := row_eq hgen hob.1 hob.2 hb
       subst this
       exact ⟨_, _, _, _, _, h, .slc hv hr0 hn⟩
      ·exact h.elim
     ·exact h.elim
    ·exact h.elim
  ·exact rest h fun hm => by
    obtain ⟨y, wr, rs', rr', h1, h2, _, _, h3⟩ := giveUp_sound hrow hv hm
    exact ⟨y, wr, rs', rr', h1, h2, h3⟩
 | nil =>
  unfold argA at h
  simp only at h
  split at h
  ·obtain ⟨ad, rfl⟩ := hv
   exact ⟨_, _, _, _, _, h, .nil⟩
  ·exact ⟨_, _, _, _, _, h, .data FrzW.nil fun ρ _ _ _ => canonA_rep hv⟩
 | hp p i j =>
  simp only [argA, rd, RM.wp] at h
  split at h
  ·exact h.elim
  ·rename_i r hr0
   split at h
   ·rename_i hgen
    split at h
    ·rename_i es' x hb
     split at h
     ·rename_i hob
      obtain ⟨⟨rfl, rfl⟩, h⟩ := h
      have := row_eq hgen hob.1 hob.2 hb
      subst this
      rw [RM.wp_bind] at h
      obtain ⟨y, pk, rs', rr', h, h1, h2, h3⟩ := packVal_sound h
      exact ⟨_, _, _, _, _, h, .ptr hv hr0 h1 h3 h2⟩
     ·exact h.elim
    ·exact h.elim
   ·exact h.elim
 | hm p =>
  simp only [argA, rd, RM.wp] at h
  split at h
  ·exact h.elim
  ·rename_i r hr0
   split at h
   ·rename_i hgen
    split at h
    ·rename_i kk ents hb
     split at h
     ·rename_i hob
      have := row_eq hgen hob.1 hob.2 hb
      subst this
      exact ⟨_, _, _, _, _, h, .mp hv hr0⟩
     ·exact h.elim
    ·exact h.elim
   ·exact h.elim
 | _ => exact restA h
theorem argsA_sound {sm : FuncId → Nat → Bool} {f : FuncId} (hrow : ∀ r row, lget rows r = some row → RowRel w N rows Φ r row) : ∀ {vs : List AV} {vals : List Value} {i : Nat} {ts : List TypeId} {rs rr : List Nat} {K : List PA × List (Option Bk) × Wr → List Nat → List Nat → Prop},
  RL N rows Φ w vs vals → (argsA sm P f i vs ts).wp C d ⟨env, rows⟩ rs rr K → ∃ as bks wr rs' rr', K (as, bks, wr) rs' rr' ∧ ArgsOut w N rows Φ vs vals as bks wr
 | [], [], _, _, _, _, _, _, h => ⟨_, _, _, _, _, h, .nil⟩
 | v :: vs, val :: vals, i, ts, _, _, _, hv, h => by
  rw [argsA, RM.wp_bind] at h
  obtain ⟨a, bk, wr, rs1, rr1, h, h1⟩ := argA_sound hrow hv.1 h
  rw [RM.wp_bind] at h
  obtain ⟨as, bks, wr', rs2, rr2, h, h2⟩ := argsA_sound hrow hv.2 h
  exact ⟨_, _, _, _, _, h, .cons h1 h2⟩
 | [], _ :: _, _, _, _, _, _, hv, _ => hv.elim
 | _ :: _, [], _, _, _, _, _, hv, _ => hv.elim
end
end Go.AL
end
section
namespace Go.AL
def enterSlot (i : Nat) : PA → AV
 | .data v => v
 | .ptr _ _ _ => .hp ⟨i, 0⟩ 0 0
 | .slc b => .hs ⟨i, 0⟩ 0 (lenOf b)
 | .mp _ => .hm ⟨i, 0⟩
 | .lost => .junk
theorem lget_enterEnv : ∀ (l : List PA) (i t : Nat), lget (enterEnv i l) t = if t < i then none else (l[t - i]?).map (enterSlot t)
 | [], i, t => by simp [enterEnv, lget]
 | a :: l, i, t => by
  have ih := lget_enterEnv l (i + 1) t
  have key : enterEnv i (a :: l) = (i, enterSlot i a) :: enterEnv (i + 1) l := by cases a <;> rfl
  rw [key, lget, ih]
  by_cases h : i = t
  ·subst h; simp
  ·rw [if_neg h]
   by_cases h2 : t < i
   ·rw [if_pos h2, if_pos (by omega)]
   ·rw [if_neg h2, if_neg (by omega), show t - i = (t - (i + 1)) + 1 by omega]
    rfl
theorem entry_slot (as : List PA) (t : Nat) : (entry as).slot t = ((as[t]?).map (enterSlot t)).getD .junk := by
 simp only [St.slot, entry, lget_enterEnv, Nat.not_lt_zero, if_false, Nat.sub_zero]
def srcOf (bks : List (Option Bk)) : List (Option Pl) := bks.map fun b => b.map fun k => ⟨k.r, k.w.gen⟩
section
variable {N PO : Nat → Prop} {w0 w1 : Base} {w : World} {env : Env} {rows : Rows} {ce : Nat → Value} {Φ : Nat → Loc}
variable {vs : List AV} {vals : List Value} {as : List PA} {bks : List (Option Bk)} {wr : Wr}
theorem ArgsOut.lens (h : ArgsOut w N rows Φ vs vals as bks wr) : vals.length = as.length ∧ bks.length = as.length := by
 induction h with
 | nil => exact ⟨rfl, rfl⟩
 | cons _ _ ih => exact ⟨by simp [ih.1], by simp [ih.2]⟩
theorem ArgsOut.frz (h : ArgsOut w N rows Φ vs vals as bks wr) : FrzW rows wr := by
 induction h with
 | nil => exact FrzW.nil
 | cons h1 _ ih =>
  refine FrzW.append ?_ ih
  cases h1 with
  | data h _ => exact h
  | _ => exact FrzW.nil
theorem ArgsOut.at (h : ArgsOut w N rows Φ vs vals as bks wr) : ∀ (i : Nat) (a : PA), as[i]? = some a → ∃ v val bk wr', vals[i]? = some val ∧ bks[i]? = some bk ∧ vs[i]? = some v ∧ ArgOut w N rows Φ v val a bk wr' ∧ (∀ q ∈ wr', q ∈ wr) ∧
  ∀ k, bk = some k → ∀ r, (r = k.r ∨ r ∈ k.nested.map (·.1)) → r ∈ bkKeys bks := by
 induction h with
 | nil => intro i a h; simp at h
 | @cons v val a0 bk wr1 wr2 vs vals as bks h1 h2 ih =>
  intro i a h
  cases i with
  | zero =>
   simp at h
   subst h
   refine ⟨v, val, bk, wr1, rfl, rfl, rfl, h1, fun q hq => List.mem_append.2 (.inl hq), ?_⟩
   rintro k rfl r hr
   simp only [bkKeys, List.mem_cons, List.mem_append]
   exact hr.imp id .inl
  | succ i =>
   obtain ⟨v', val', bk', wr', g1, g2, g3, g4, g5, g6⟩ := ih i a (by simpa using h)
   refine ⟨v', val', bk', wr', by simpa using g1, by simpa using g2, by simpa using g3, g4, fun q hq => List.mem_append.2 (.inr (g5 q hq)), fun k hk r hr => ?_⟩
   have := g6 k hk r hr
   cases bk with
   | none => exact this
   | some k0 => simp only [bkKeys, List.mem_cons, List.mem_append]; exact .inr (.inr this)
variable (h : Core N PO w0 ⟨env, rows⟩ ce w Φ) (ha : ArgsOut w N rows Φ vs vals as bks wr) (hd : distinct (bkKeys bks) = true) (hj : disjB (wr.map (·.1)) (bkKeys bks) = true) (hM : as.length ≤ M)
include ha hj in
theorem ent_keep {r : Nat} (hr : r ∈ bkKeys bks) : lget (putRows rows wr) r = lget rows r :=
 notIn_get (notIn_of fun hm => disjB_spec hj r hm hr)
include ha hj in
theorem ent_piece : ∀ (i : Nat) (a : PA) (s : Option Pl), as[i]? = some a → (srcOf bks)[i]? = some s → PieceOK (putRows rows wr) s a := by
 intro i a s h1 h2
 obtain ⟨v, val, bk, wr', g1, g2, g3, g4, g5, g6⟩ := ha.at i a h1
 have hs : s = bk.map fun k => ⟨k.r, k.w.gen⟩ := by
  simp only [srcOf, List.getElem?_map, g2, Option.map_some] at h2
  exact (Option.some.inj h2).symm
 subst hs
 cases g4 with
 | data _ _ => rfl
 | nil => rfl
 | slc e0 e1 e2 =>
  refine ⟨_, (ent_keep ha hj (g6 _ rfl _ (.inl rfl))).trans e1, ?_⟩
  simp
 | ptr e0 e1 e2 e3 e4 =>
  refine ⟨_, _, rfl, (ent_keep ha hj (g6 _ rfl _ (.inl rfl))).trans e1, e4, ?_⟩
  rw [e3]
  refine packOut_frz (ha.frz.put (Frz.refl rows)) (fun r hr => ent_keep ha hj (g6 _ rfl r (.inr ?_))) e2.out
  rw [e2.keys]; exact hr
 | mp e0 e1 => exact ⟨_, rfl, (ent_keep ha hj (g6 _ rfl _ (.inl rfl))).trans e1⟩
include ha hj in
theorem ent_keys : ∀ {vs : List AV} {vals : List Value} {as' : List PA} {bks' : List (Option Bk)} {wr' : Wr}, ArgsOut w N rows Φ vs vals as' bks' wr' → (∀ r ∈ bkKeys bks', r ∈ bkKeys bks) →
  ((srcOf bks').zip as').flatMap (fun p => pieceKeys (putRows rows wr) p.1 p.2) = bkKeys bks' := by
 intro vs vals as' bks' wr' h'
 induction h' with
 | nil => intro _; rfl
 | @cons v val a0 bk wr1 wr2 vs vals as' bks' h1 h2 ih =>
  intro hsub
  have ih := ih (fun r hr => hsub r (by
   cases bk with
   | none => exact hr
   | some k0 => simp only [bkKeys, List.mem_cons, List.mem_append]; exact .inr (.inr hr)))
  simp only [srcOf, List.map_cons, List.zip_cons_cons, List.flatMap_cons] at ih ⊢
  rw [ih]
  cases h1 with
  | data _ _ => rfl
  | nil => rfl
  | slc e0 e1 e2 =>
   simp only [Option.map_some, pieceKeys, bkKeys, List.map_nil, List.nil_append]
   rfl
  | ptr e0 e1 e2 e3 e4 =>
   simp only [Option.map_some, pieceKeys, bkKeys]
   rw [(ent_keep ha hj (hsub _ (.head _))).trans e1]
   show (_ :: packKeys (cellsOf _) (cellsOf _)) ++ bkKeys bks' = _
   rw [e3, ← e2.keys]
   rfl
  | mp e0 e1 =>
   simp only [Option.map_some, pieceKeys, bkKeys, List.map_nil, List.nil_append]
   rfl
include ha hd hj hM in
theorem ent_packed : Packed False (putRows rows wr) (entry as).rows (kapOf (putRows rows wr) (srcOf bks)) := by
 refine packed_of (by rw [srcOf, List.length_map]; exact ha.lens.2) hM (ent_piece ha hj) ?_ ?_
 ·rw [ent_keys ha hj ha (fun _ h => h)]
  exact distinct_nodup hd
 ·intro i es y subs p x h1 h2 h3 r hr
  left
  obtain ⟨v, val, bk, wr', g1, g2, g3, g4, g5, g6⟩ := ha.at i _ h1
  have hs : some p = bk.map fun k => ⟨k.r, k.w.gen⟩ := by
   simp only [srcOf, List.getElem?_map, g2, Option.map_some] at h2
   exact (Option.some.inj h2).symm
  cases g4 with
  | @ptr p' es' x' y' pk val e0 e1 e2 e3 e4 =>
   simp only [Option.map_some] at hs
   obtain rfl : p = p' := by simpa using hs
   rw [(ent_keep ha hj (g6 _ rfl _ (.inl rfl))).trans e1] at h3
   obtain ⟨_, rfl⟩ := by simpa using h3
   rw [e3] at hr
   obtain ⟨row, q1, q2⟩ := e2.frz r hr
   obtain ⟨ow, q3, q4⟩ := (ha.frz.put (Frz.refl rows)).get q1
   refine ⟨_, q3, ?_⟩
   cases ow with
   | false => rfl
   | true => rw [q4 rfl] at q2; cases q2
include h ha hd hj hM in
theorem ent_core (hw1 : w1.toWorld = w) (hl1 : w1.loc = locTo (entry as).rows (kapOf (putRows rows wr) (srcOf bks)) Φ) (hr1 : w1.rows0 = (entry as).rows) :
  Core N PO w0 ⟨env, putRows rows wr⟩ ce w Φ ∧
  Core (Nx N (putRows rows wr) (Img (entry as).rows (kapOf (putRows rows wr) (srcOf bks))) Φ) (Px (putRows rows wr) (Img (entry as).rows (kapOf (putRows rows wr) (srcOf bks))) Φ) w1 (entry as) (fun t => vals.toArray.getD t undef) w w1.loc := by
 have hfz := ha.frz.put (Frz.refl rows)
 have hc := hfz.core h
 refine ⟨hc, ?_⟩
 have hp := ent_packed ha hd hj hM
 have hN : ∀ b, Nx N (putRows rows wr) (Img (entry as).rows (kapOf (putRows rows wr) (srcOf bks))) Φ b → Av N (putRows rows wr) Φ b := by
  rintro b (hb | ⟨r, row, o, h1, h2, h3, _⟩)
  ·exact .inl hb
  ·exact .inr ⟨r, row, o, h1, h2, h3⟩
 have hmine : ∀ r row b o, lget (putRows rows wr) r = some row → row.own = true → Φ r = some (b, o) → Img (entry as).rows (kapOf (putRows rows wr) (srcOf bks)) r → ¬ Nx N (putRows rows wr) (Img (entry as).rows (kapOf (putRows rows wr) (srcOf bks))) Φ b := by
  rintro r row b o h1 h2 h3 h4 (hb | ⟨r', row', o', h1', h2', h3', h4'⟩)
  ·exact (hc.mine r row b o h1 h2 h3).1 hb
  ·have := hc.inj _ _ _ _ b _ _ h1 h1' h2 h2' h3 h3'
   exact h4' (this ▸ h4)
 have hex : False → ∀ b, Nx N (putRows rows wr) (Img (entry as).rows (kapOf (putRows rows wr) (srcOf bks))) Φ b → N b := fun h => h.elim
 rw [hl1]
 refine Core.pack hc hp hN hmine hex (by rw [hw1]) (by rw [hw1]) (by rw [hw1]) (by rw [hw1]; exact Nat.le_refl _) (fun b _ _ => by rw [hw1]) ?_ (by rw [hw1]; exact Grows.refl w) hl1 hr1 (fun r row b o h1 h2 h3 h4 => .inl ⟨r, row, o, h1, h2, h3, h4⟩) ?_
 ·intro b hb
  rw [hw1]
  rcases hb with hb | ⟨r, row, o, h1, h2, h3, h4⟩
  ·refine ⟨Nat.lt_of_lt_of_le (hc.nlt b hb).1 hc.size, ?_⟩
   rintro ⟨r, row, o, h1, h2, h3, _⟩
   exact (hc.mine r row b o h1 h2 h3).1 hb
  ·refine ⟨(hc.rows r row h1).lt h3, ?_⟩
   rintro ⟨r', row', o', h1', h2', h3', h4'⟩
   have := hc.inj _ _ _ _ b _ _ h1 h1' h2 h2' h3 h3'
   exact h4 (this ▸ h4')
 ·intro t
  show R _ _ _ w ((entry as).slot t) _
  rw [entry_slot]
  cases hat : as[t]? with
  | none => exact trivial
  | some a =>
   simp only [Option.map_some, Option.getD_some]
   obtain ⟨v, val, bk, wr', g1, g2, g3, g4, g5, g6⟩ := ha.at t a hat
   have htM : t < M := Nat.lt_of_lt_of_le (List.getElem?_eq_some_iff.1 hat).1 hM
   have hval : vals.toArray.getD t undef = val := by simp [g1]
   rw [hval]
   have htop := entry_top hM htM
   rw [hat, Option.bind_some] at htop
   have hkap : kapOf (putRows rows wr) (srcOf bks) t = bk.map fun k => ⟨k.r, k.w.gen⟩ := by
    rw [kap_top htM]
    simp only [srcOf, List.getElem?_map, g2, Option.map_some, Option.join_some]
   cases g4 with
   | @data _ _ y _ e1 e2 =>
    exact pack_rep hc hp hN hmine hex (e2 _ hfz (fun r row hm => ha.frz.get (.inl (g5 _ hm))) hc.rows)
   | @nil ad es =>
    refine ⟨ad, 0, rfl, Nat.le_refl _, fun _ => rfl, _, htop, Nat.le_refl _, fun _ es' xs' hb => ?_⟩
    simp only [locTo, htop, topRow, hkap, Option.map_none]
   | @slc p n es xs _ e0 e1 e2 =>
    have e : lenOf (.cells es (xs.take n)) = n := by simp [lenOf]; omega
    simp only [enterSlot, e]
    exact pack_hs hp (by rw [htop]; rfl) hkap (hfz.hd _ _ e0)
   | @ptr p es x y pk _ e0 e1 e2 e3 e4 =>
    exact pack_hp (w := w) hp (by rw [htop]; rfl) hkap (hfz.hd _ _ e0)
   | @mp p kk ents _ e0 e1 =>
    exact pack_hm (w := w) hp (by rw [htop]; rfl) hkap (hfz.hd _ _ e0)
end
end Go.AL
end
section
namespace Go.AL
abbrev AnW := List (Nat × (Row × St3))
def AnW.wr (al : AnW) : Wr := al.map fun q => (q.1, q.2.1)
def CellIn (al : AnW) (c c' : AV) : Prop :=
 (c' = c ∧ cleanCell c = true) ∨
 (∃ kx n k g, c = .hs ⟨kx, 0⟩ 0 n ∧ c' = .hs ⟨k, g⟩ 0 n ∧ ∃ row, (k, (row, St3.got kx)) ∈ al ∧ row.gen = g) ∨ (∃ kx k g, c = .hm ⟨kx, 0⟩ ∧ c' = .hm ⟨k, g⟩ ∧ ∃ row, (k, (row, St3.got kx)) ∈ al ∧ row.gen = g)
def CellsIn (al : AnW) : List AV → List AV → Prop
 | [], [] => True
 | c :: cs, c' :: cs' => CellIn al c c' ∧ CellsIn al cs cs'
 | _, _ => False
def ValIn (al : AnW) : AV → AV → Prop
 | .agg cs, .agg cs' => CellsIn al cs cs'
 | .agg _, _ => False
 | _, .agg _ => False
 | c, c' => CellIn al c c'
theorem CellIn.sub {al al' : AnW} (hs : ∀ q ∈ al, q ∈ al') {c c' : AV} (h : CellIn al c c') : CellIn al' c c' := by
 rcases h with h | ⟨kx, n, k, g, h1, h2, row, h3, h4⟩ | ⟨kx, k, g, h1, h2, row, h3, h4⟩
 ·exact .inl h
 ·exact .inr (.inl ⟨kx, n, k, g, h1, h2, row, hs _ h3, h4⟩)
 ·exact .inr (.inr ⟨kx, k, g, h1, h2, row, hs _ h3, h4⟩)
theorem CellsIn.sub {al al' : AnW} (hs : ∀ q ∈ al, q ∈ al') : ∀ {cs cs' : List AV}, CellsIn al cs cs' → CellsIn al' cs cs'
 | [], [], _ => trivial
 | _ :: _, _ :: _, h => ⟨h.1.sub hs, CellsIn.sub hs h.2⟩
 | [], _ :: _, h => h.elim
 | _ :: _, [], h => h.elim
theorem ValIn.sub {al al' : AnW} (hs : ∀ q ∈ al, q ∈ al') {c c' : AV} (h : ValIn al c c') : ValIn al' c c' := by
 cases c <;> cases c' <;> first | exact CellIn.sub hs h | exact CellsIn.sub hs h | exact h.elim
def nstOrClean : AV → Bool
 | .nst => true
 | x => cleanCell x
section
variable {rows : Rows} {env : Env} {C : FuncId → List PA → CRes → Prop} {d : Bool} {subs : List (Nat × Body)} {c i : Nat}
theorem unpackCells_sound : ∀ {l : List AV} {j : Nat} {rs rr : List Nat} {K : List AV × Wr → List Nat → List Nat → Prop}, (∀ x ∈ l, nstOrClean x = true) → (unpackCells c subs j l).wp C d ⟨env, rows⟩ rs rr K →
  ∃ l' al rs' rr', K (l', al.wr) rs' rr' ∧ CellsIn al (enterCells i subs j l).1 l' ∧
   ∀ q ∈ al, ∃ m b, j ≤ m ∧ q.1 = nestKey c m ∧ q.2.2 = St3.got (nestKey i m) ∧ l[m - j]? = some .nst ∧ lget subs m = some b ∧ q.2.1 = ⟨freshGen (lget rows (nestKey c m)), true, false, b⟩
 | [], j, rs, rr, K, _, h => ⟨[], [], rs, rr, h, trivial, fun _ h => by cases h⟩
 | x :: l, j, rs, rr, K, hcl, h => by
  have hcl' : ∀ y ∈ l, nstOrClean y = true := fun y hy => hcl y (.tail _ hy)
  have lift : ∀ {al : AnW}, (∀ q ∈ al, ∃ m b, j + 1 ≤ m ∧ q.1 = nestKey c m ∧ q.2.2 = St3.got (nestKey i m) ∧ l[m - (j + 1)]? = some .nst ∧ lget subs m = some b ∧ q.2.1 = ⟨freshGen (lget rows (nestKey c m)), true, false, b⟩) →
    ∀ q ∈ al, ∃ m b, j ≤ m ∧ q.1 = nestKey c m ∧ q.2.2 = St3.got (nestKey i m) ∧ (x :: l)[m - j]? = some .nst ∧ lget subs m = some b ∧ q.2.1 = ⟨freshGen (lget rows (nestKey c m)), true, false, b⟩ := by
   intro al h q hq
   obtain ⟨m, b, h1, h2, h3, h4, h5, h6⟩ := h q hq
   refine ⟨m, b, by omega, h2, h3, ?_, h5, h6⟩
   rw [show m - j = (m - (j + 1)) + 1 by omega]
   exact h4
  have plain : cleanCell x = true → (unpackCells c subs (j + 1) l).wp C d ⟨env, rows⟩ rs rr (fun y rs rr => K (x :: y.1, y.2) rs rr) → ∃ l' al rs' rr', K (l', al.wr) rs' rr' ∧ CellsIn al (enterCells i subs j (x :: l)).1 l' ∧
   ∀ q ∈ al, ∃ m b, j ≤ m ∧ q.1 = nestKey c m ∧ q.2.2 = St3.got (nestKey i m) ∧ (x :: l)[m - j]? = some .nst ∧ lget subs m = some b ∧ q.2.1 = ⟨freshGen (lget rows (nestKey c m)), true, false, b⟩ := by
   intro hx h
   obtain ⟨l', al, rs', rr', h, h1, h2⟩ := unpackCells_sound hcl' h
   refine ⟨_, al, _, _, h, ?_, lift h2⟩
   have e : (enterCells i subs j (x :: l)).1 = x :: (enterCells i subs (j + 1) l).1 := by
    cases x <;> first | rfl | (simp [cleanCell] at hx)
   rw [e]
   exact ⟨.inl ⟨rfl, hx⟩, h1⟩
  cases x with
  | nst =>
   cases hs : lget subs j with
   | none => simp only [unpackCells, hs] at h; exact h.elim
   | some b =>
    cases b with
    | cells es xs =>
     simp only [unpackCells, hs, mk, RM.wp, RM.wp_bind] at h
     obtain ⟨l', al, rs', rr', h, h1, h2⟩ := unpackCells_sound hcl' h
     refine ⟨_, (nestKey c j, (⟨freshGen (lget rows (nestKey c j)), true, false, .cells es xs⟩, St3.got (nestKey i j))) :: al, _, _, h, ?_, ?_⟩
     ·simp only [enterCells, hs]
      refine ⟨.inr (.inl ⟨_, _, _, _, rfl, rfl, _, .head _, rfl⟩), h1.sub fun q hq => .tail _ hq⟩
     ·intro q hq
      rcases List.mem_cons.1 hq with rfl | hq
      ·exact ⟨j, _, Nat.le_refl _, rfl, rfl, by simp, hs, rfl⟩
      ·exact lift h2 q hq
    | map kk es =>
     simp only [unpackCells, hs, mk, RM.wp, RM.wp_bind] at h
     obtain ⟨l', al, rs', rr', h, h1, h2⟩ := unpackCells_sound hcl' h
     refine ⟨_, (nestKey c j, (⟨freshGen (lget rows (nestKey c j)), true, false, .map kk es⟩, St3.got (nestKey i j))) :: al, _, _, h, ?_, ?_⟩
     ·simp only [enterCells, hs]
      refine ⟨.inr (.inr ⟨_, _, _, rfl, rfl, _, .head _, rfl⟩), h1.sub fun q hq => .tail _ hq⟩
     ·intro q hq
      rcases List.mem_cons.1 hq with rfl | hq
      ·exact ⟨j, _, Nat.le_refl _, rfl, rfl, by simp, hs, rfl⟩
      ·exact lift h2 q hq
  | _ =>
   have hx := hcl _ (.head _)
   simp only [unpackCells, RM.wp, RM.wp_bind] at h
   exact plain hx h
theorem unpackVal_sound {x : AV} {rs rr : List Nat} {K : AV × Wr → List Nat → List Nat → Prop} (hcl : ∀ y ∈ cellsOf x, nstOrClean y = true) (h : (unpackVal c subs x).wp C d ⟨env, rows⟩ rs rr K) :
  ∃ y al rs' rr', K (y, al.wr) rs' rr' ∧ ValIn al (enterVal i subs x).1 y ∧
   ∀ q ∈ al, ∃ m b, q.1 = nestKey c m ∧ q.2.2 = St3.got (nestKey i m) ∧ (cellsOf x)[m]? = some .nst ∧ lget subs m = some b ∧ q.2.1 = ⟨freshGen (lget rows (nestKey c m)), true, false, b⟩ := by
 by_cases ha : ∃ cs, x = .agg cs
 ·obtain ⟨cs, rfl⟩ := ha
  rw [unpackVal, RM.wp_bind] at h
  obtain ⟨l', al, rs', rr', h, h1, h2⟩ := unpackCells_sound (i := i) hcl h
  exact ⟨_, al, _, _, h, h1, fun q hq => by obtain ⟨m, b, _, e⟩ := h2 q hq; exact ⟨m, b, by simpa using e⟩⟩
 ·have hc : cellsOf x = [x] := by cases x <;> first | rfl | exact absurd ⟨_, rfl⟩ ha
  have h' : ((unpackCells c subs 0 [x]).bind fun y => .ret (at_ y.1 0, y.2)).wp C d ⟨env, rows⟩ rs rr K := by
   cases x <;> first | exact h | exact absurd ⟨_, rfl⟩ ha
  rw [hc] at hcl
  rw [RM.wp_bind] at h'
  obtain ⟨l', al, rs', rr', h', h1, h2⟩ := unpackCells_sound (i := i) hcl h'
  refine ⟨_, al, _, _, h', ?_, fun q hq => by obtain ⟨m, b, _, e⟩ := h2 q hq; exact ⟨m, b, by rw [hc]; simpa using e⟩⟩
  have e1 : (enterVal i subs x).1 = at_ (enterCells i subs 0 [x]).1 0 := by cases x <;> first | rfl | exact absurd ⟨_, rfl⟩ ha
  rw [e1]
  match hq : (enterCells i subs 0 [x]).1, l', h1 with
  | [c0], [c1], ⟨hcc, _⟩ =>
   show ValIn al c0 c1
   rcases id hcc with ⟨rfl, hcl0⟩ | ⟨kx, n, k, g, rfl, rfl, _⟩ | ⟨kx, k, g, rfl, rfl, _⟩
   ·cases c1 <;> first | exact hcc | (simp [cleanCell] at hcl0)
   ·exact hcc
   ·exact hcc
  | [], [], _ => exact absurd hq (by cases x <;> first | (simp [enterCells]; done) | (simp only [enterCells]; cases lget subs 0 with | none => simp | some b => cases b <;> simp))
  | _ :: _ :: _, _, _ => exact absurd hq (by cases x <;> first | (simp [enterCells]; done) | (simp only [enterCells]; cases lget subs 0 with | none => simp | some b => cases b <;> simp))
end
end Go.AL
end
section
namespace Go.AL
def BodyIn (al : AnW) (box : Bool) (b b' : Body) : Prop :=
 match box, b, b' with
 | true, .cells es [x], .cells es' [x'] => es = es' ∧ ValIn al x x'
 | true, _, _ => False
 | false, b, b' => b' = b
theorem BodyIn.sub {al al' : AnW} (hs : ∀ q ∈ al, q ∈ al') {box : Bool} {b b' : Body} (h : BodyIn al box b b') : BodyIn al' box b b' := by
 unfold BodyIn at h ⊢
 split at h
 ·exact ⟨h.1, h.2.sub hs⟩
 ·exact h.elim
 ·exact h
def DeadRow (rows : Rows) (key : Nat) (row : Row) : Prop := row.own = false ∧ row.box = false ∧ row.body = .cells 0 [] ∧ row.gen ≠ 0 ∧ ∀ row0, lget rows key = some row0 → row0.gen < row.gen
def GotRow (rows : Rows) (L : List PA) (kof : Nat → Nat) (top : Nat → Option Row) (al : AnW) (key : Nat) (row : Row) (kx : Nat) : Prop :=
 key = kof kx ∧ ∃ rowx, lget (entry L).rows kx = some rowx ∧ rowx.gen = 0 ∧ rowx.own = true ∧ row.own = true ∧ row.box = rowx.box ∧ BodyIn al row.box rowx.body row.body ∧
  (FreshG rows key row.gen ∨ ∃ row0, top kx = some row0 ∧ lget rows key = some row0 ∧ row0.own = true ∧ row.gen = row0.gen ∧ row.box = row0.box)
def AnFact (rows : Rows) (L : List PA) (kof : Nat → Nat) (top : Nat → Option Row) (al : AnW) (q : Nat × (Row × St3)) : Prop :=
 match q.2.2 with
 | .keep => False
 | .dead => DeadRow rows q.1 q.2.1
 | .got kx => GotRow rows L kof top al q.1 q.2.1 kx
theorem AnFact.sub {rows : Rows} {L : List PA} {kof : Nat → Nat} {top : Nat → Option Row} {al al' : AnW} (hs : ∀ q ∈ al, q ∈ al') {q : Nat × (Row × St3)} (h : AnFact rows L kof top al q) : AnFact rows L kof top al' q := by
 unfold AnFact at h ⊢
 split at h
 ·exact h.elim
 ·rename_i e; exact h
 ·obtain ⟨h1, rowx, h2, h3, h4, h5, h6, h7, h8⟩ := h
  exact ⟨h1, rowx, h2, h3, h4, h5, h6, h7.sub hs, h8⟩
def CleanPA : PA → Prop
 | .ptr _ x _ => ∀ y ∈ cellsOf x, nstOrClean y = true
 | _ => True
section
variable {rows : Rows} {env : Env} {C : FuncId → List PA → CRes → Prop} {d : Bool} {L : List PA} {kof : Nat → Nat} {top : Nat → Option Row}
theorem AnW.wr_append (a b : AnW) : AnW.wr (a ++ b) = AnW.wr a ++ AnW.wr b := List.map_append
theorem nested_facts {al : AnW} {c i es : Nat} {x : AV} {subs : List (Nat × Body)} (hM : L.length ≤ M) (hL : L[i]? = some (.ptr es x subs)) (hk : ∀ m, kof (nestKey i m) = nestKey c m)
  (h : ∀ q ∈ al, ∃ m b, q.1 = nestKey c m ∧ q.2.2 = St3.got (nestKey i m) ∧ (cellsOf x)[m]? = some .nst ∧ lget subs m = some b ∧ q.2.1 = ⟨freshGen (lget rows (nestKey c m)), true, false, b⟩) : ∀ q ∈ al, AnFact rows L kof top al q := by
 intro q hq
 obtain ⟨m, b, h1, h2, h3, h4, h5⟩ := h q hq
 have hiM : i < M := Nat.lt_of_lt_of_le (List.getElem?_eq_some_iff.1 hL).1 hM
 unfold AnFact
 rw [h2]
 refine ⟨by rw [h1, hk], ⟨0, true, false, b⟩, ?_, rfl, rfl, by rw [h5], by rw [h5], by rw [h5]; rfl, .inl (by rw [h1, h5]; exact fresh_gen)⟩
 rw [entry_nest hM hiM, hL]
 simp [nestAt, h3, nestRow, h4]
def deadAn (l : List (Nat × Row)) : AnW := l.map fun q => (q.1, (q.2.dead, St3.dead))
theorem deadAll_eq : ∀ l : List (Nat × Row), deadAll l = (deadAn l).wr
 | [] => rfl
 | (k, w) :: l => by simp only [deadAll, deadAll_eq l]; rfl
def deadButAn (ks : List Nat) : List (Nat × Row) → AnW
 | [] => []
 | (k, w) :: l => if inL k ks = true then deadButAn ks l else (k, (w.dead, St3.dead)) :: deadButAn ks l
theorem deadBut_eq (ks : List Nat) : ∀ l : List (Nat × Row), deadBut ks l = (deadButAn ks l).wr
 | [] => rfl
 | (k, w) :: l => by
  simp only [deadBut, deadButAn]
  split
  ·exact deadBut_eq ks l
  ·simp only [deadBut_eq ks l]; rfl
theorem deadBut_sub (ks : List Nat) : ∀ {l : List (Nat × Row)} {q : Nat × (Row × St3)}, q ∈ deadButAn ks l → ∃ w, (q.1, w) ∈ l ∧ q.2 = (w.dead, St3.dead)
 | [], _, h => by cases h
 | (k, w) :: l, q, h => by
  unfold deadButAn at h
  split at h
  ·obtain ⟨w', h1, h2⟩ := deadBut_sub ks h; exact ⟨w', .tail _ h1, h2⟩
  ·rcases List.mem_cons.1 h with rfl | h
   ·exact ⟨w, .head _, rfl⟩
   ·obtain ⟨w', h1, h2⟩ := deadBut_sub ks h; exact ⟨w', .tail _ h1, h2⟩
theorem deadBut_cover (ks : List Nat) : ∀ {l : List (Nat × Row)} {k : Nat}, k ∈ l.map (·.1) → k ∈ ks ∨ k ∈ (deadButAn ks l).map (·.1)
 | [], _, h => by cases h
 | (k0, w) :: l, k, h => by
  unfold deadButAn
  simp only [List.map_cons, List.mem_cons] at h
  split
  ·rename_i hk
   rcases h with rfl | h
   ·exact .inl (inL_iff.1 hk)
   ·exact deadBut_cover ks h
  ·simp only [List.map_cons, List.mem_cons]
   rcases h with rfl | h
   ·exact .inr (.inl rfl)
   ·exact (deadBut_cover ks h).imp id .inr
theorem dead_fact {k : Nat} {w : Row} (h : lget rows k = some w) : DeadRow rows k w.dead := by
 refine ⟨rfl, rfl, rfl, Nat.succ_ne_zero _, fun row0 h0 => ?_⟩
 rw [h] at h0
 obtain rfl := Option.some.inj h0
 exact Nat.lt_succ_self _
theorem backA_sound (hM : L.length ≤ M) : ∀ {as : List PA} {bks : List (Option Bk)} {i : Nat} {rs rr : List Nat} {K : Wr → List Nat → List Nat → Prop}, as.length = bks.length → (∀ m a, as[m]? = some a → L[i + m]? = some a) → (∀ a ∈ as, CleanPA a) →
  (∀ m k, bks[m]? = some (some k) → kof (i + m) = k.r ∧ (∀ j, kof (nestKey (i + m) j) = nestKey k.r j) ∧ top (i + m) = some k.w ∧ lget rows k.r = some k.w ∧ k.w.own = true ∧ (∀ q ∈ k.nested, lget rows q.1 = some q.2) ∧ (k.w.box = false → k.nested = []) ∧
   ∀ a row', as[m]? = some a → topRow (i + m) a = some row' → k.w.box = row'.box) → (backA as bks).wp C d ⟨env, rows⟩ rs rr K →
  ∃ al rs' rr', K (AnW.wr al) rs' rr' ∧ (∀ q ∈ al, AnFact rows L kof top al q) ∧ ∀ r ∈ bkKeys bks, r ∈ al.map (·.1)
 | [], [], i, rs, rr, K, _, _, _, _, h => ⟨[], _, _, h, (fun _ h => by cases h), fun _ h => by cases h⟩
 | a :: as, bk :: bks, i, rs, rr, K, hl, hL, hcl, hb, h => by
  have hl' : as.length = bks.length := by simpa using hl
  have hL' : ∀ m a, as[m]? = some a → L[i + 1 + m]? = some a := fun m a h => by rw [show i + 1 + m = i + (m + 1) by omega]; exact hL (m + 1) a (by simpa using h)
  have hcl' : ∀ a ∈ as, CleanPA a := fun a h => hcl a (.tail _ h)
  have hb' : ∀ m k, bks[m]? = some (some k) → kof (i + 1 + m) = k.r ∧ (∀ j, kof (nestKey (i + 1 + m) j) = nestKey k.r j) ∧ top (i + 1 + m) = some k.w ∧ lget rows k.r = some k.w ∧ k.w.own = true ∧ (∀ q ∈ k.nested, lget rows q.1 = some q.2) ∧ (k.w.box = false → k.nested = []) ∧
    ∀ a row', as[m]? = some a → topRow (i + 1 + m) a = some row' → k.w.box = row'.box := fun m k h => by
   rw [show i + 1 + m = i + (m + 1) by omega]
   have := hb (m + 1) k (by simpa using h)
   simpa using this
  have hi0 : L[i]? = some a := by simpa using hL 0 a rfl
  have hiM : i < M := Nat.lt_of_lt_of_le (List.getElem?_eq_some_iff.1 hi0).1 hM
  have htop := entry_top hM hiM
  rw [hi0, Option.bind_some] at htop
  cases bk with
  | none =>
   have h' : (backA as bks).wp C d ⟨env, rows⟩ rs rr K := by cases a <;> exact h
   have := backA_sound (bks := bks) hM hl' hL' hcl' hb' h'
   exact this
  | some k =>
   obtain ⟨b1, b2, b3, b4, b5, b6, b8, b7⟩ := hb 0 k rfl
   rw [Nat.add_zero] at b1 b2 b3 b7
   -- memory that is lost
   have lost : (backA as bks).wp C d ⟨env, rows⟩ rs rr (fun z rs rr => K ((k.r, k.w.dead) :: (deadAll k.nested ++ z)) rs rr) → ∃ al rs' rr', K (AnW.wr al) rs' rr' ∧ (∀ q ∈ al, AnFact rows L kof top al q) ∧ ∀ r ∈ bkKeys (some k :: bks), r ∈ al.map (·.1) := by
    intro h
    obtain ⟨al, rs', rr', h, h1, h2⟩ := backA_sound hM hl' hL' hcl' hb' h
    refine ⟨(k.r, (k.w.dead, St3.dead)) :: (deadAn k.nested ++ al), rs', rr', ?_, ?_, ?_⟩
    ·rw [deadAll_eq] at h
     show K ((k.r, k.w.dead) :: AnW.wr (deadAn k.nested ++ al)) rs' rr'
     rw [AnW.wr_append]
     exact h
    ·intro q hq
     rcases List.mem_cons.1 hq with rfl | hq
     ·exact dead_fact b4
     ·rcases List.mem_append.1 hq with hq | hq
      ·obtain ⟨q', hq', rfl⟩ := List.mem_map.1 hq
       exact dead_fact (b6 q' hq')
      ·exact (h1 q hq).sub fun q' hq' => .tail _ (List.mem_append.2 (.inr hq'))
    ·intro r hr
     simp only [bkKeys, List.mem_cons, List.mem_append] at hr
     simp only [List.map_cons, List.map_append, List.mem_cons, List.mem_append]
     rcases hr with rfl | hr | hr
     ·exact .inl rfl
     ·right; left
      simp only [deadAn, List.map_map]
      exact hr
     ·exact .inr (.inr (h2 r hr))
   -- a slice or a map
   have plain : ∀ (b : Body), topRow i a = some ⟨0, true, false, b⟩ → (backA as bks).wp C d ⟨env, rows⟩ rs rr (fun z rs rr => K ((k.r, { k.w with body := b }) :: z) rs rr) → ∃ al rs' rr', K (AnW.wr al) rs' rr' ∧ (∀ q ∈ al, AnFact rows L kof top al q) ∧ ∀ r ∈ bkKeys (some k :: bks), r ∈ al.map (·.1) := by
    intro b htr h
    have hnest := b8 (b7 a _ rfl htr)
    obtain ⟨al, rs', rr', h, h1, h2⟩ := backA_sound hM hl' hL' hcl' hb' h
    refine ⟨(k.r, ({ k.w with body := b }, St3.got i)) :: al, rs', rr', h, ?_, ?_⟩
    ·intro q hq
     rcases List.mem_cons.1 hq with rfl | hq
     ·have hbx := b7 a _ rfl htr
      refine ⟨b1.symm, _, htop.trans htr, rfl, rfl, b5, hbx, ?_, .inr ⟨k.w, b3, b4, b5, rfl, rfl⟩⟩
      show BodyIn _ k.w.box b b
      rw [hbx]; rfl
     ·exact (h1 q hq).sub fun q' hq' => .tail _ hq'
    ·intro r hr
     simp only [bkKeys, hnest, List.map_nil, List.nil_append, List.mem_cons] at hr
     rcases hr with rfl | hr
     ·exact .head _
     ·exact .tail _ (h2 r hr)
   cases a with
   | data v => exact lost (by simp only [backA, RM.wp_bind] at h; exact h)
   | lost => exact lost (by simp only [backA, RM.wp_bind] at h; exact h)
   | slc b => exact plain b rfl (by simp only [backA, RM.wp_bind] at h; exact h)
   | mp b => exact plain b rfl (by simp only [backA, RM.wp_bind] at h; exact h)
   | ptr es x subs =>
    rw [backA, RM.wp_bind] at h
    obtain ⟨y, al1, rs1, rr1, h, v1, v2⟩ := unpackVal_sound (i := i) (hcl _ (.head _)) h
    rw [RM.wp_bind] at h
    obtain ⟨al, rs', rr', h, h1, h2⟩ := backA_sound hM hl' hL' hcl' hb' h
    refine ⟨deadButAn (al1.wr.map (·.1)) k.nested ++ (al1 ++ ((k.r, ({ k.w with body := .cells es [y] }, St3.got i)) :: al)), rs', rr', ?_, ?_, ?_⟩
    ·rw [deadBut_eq] at h
     rw [AnW.wr_append, AnW.wr_append]
     exact h
    ·intro q hq
     rcases List.mem_append.1 hq with hq | hq
     ·obtain ⟨w', g1, g2⟩ := deadBut_sub _ hq
      unfold AnFact
      rw [g2]
      exact dead_fact (b6 _ g1)
     ·rcases List.mem_append.1 hq with hq | hq
      ·exact (nested_facts hM hi0 b2 v2 q hq).sub fun q' hq' => List.mem_append.2 (.inr (List.mem_append.2 (.inl hq')))
      ·rcases List.mem_cons.1 hq with rfl | hq
       ·have hbx : k.w.box = true := b7 _ _ rfl rfl
        refine ⟨b1.symm, _, htop, rfl, rfl, b5, hbx, ?_, .inr ⟨k.w, b3, b4, b5, rfl, rfl⟩⟩
        show BodyIn _ k.w.box (.cells es [(enterVal i subs x).1]) (.cells es [y])
        rw [hbx]
        exact ⟨rfl, v1.sub fun q' hq' => List.mem_append.2 (.inr (List.mem_append.2 (.inl hq')))⟩
       ·exact (h1 q hq).sub fun q' hq' => List.mem_append.2 (.inr (List.mem_append.2 (.inr (.tail _ hq'))))
    ·intro r hr
     simp only [bkKeys, List.mem_cons, List.mem_append] at hr
     simp only [List.map_append, List.map_cons, List.mem_append, List.mem_cons]
     rcases hr with rfl | hr | hr
     ·exact .inr (.inr (.inl rfl))
     ·rcases deadBut_cover (al1.wr.map (·.1)) hr with hr | hr
      ·right; left
       simp only [AnW.wr, List.map_map] at hr
       exact hr
      ·exact .inl hr
     ·exact .inr (.inr (.inr (h2 r hr)))
 | [], _ :: _, _, _, _, _, hl, _, _, _, _ => by simp at hl
 | _ :: _, [], _, _, _, _, hl, _, _, _, _ => by simp at hl
end
end Go.AL
end
