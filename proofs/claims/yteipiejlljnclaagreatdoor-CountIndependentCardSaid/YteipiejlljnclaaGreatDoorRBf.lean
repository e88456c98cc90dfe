/- The abstract layer, part 32: what is kept at a loop's head holds still. No condition. -/
import Derived.Test.YteipiejlljnclaaGreatDoorRBa
import Derived.Deep.LoopGhost
import Derived.Test.YteipiejlljnclaaGreatDoorRAa
set_option linter.unusedVariables false
set_option linter.unusedSectionVars false
set_option linter.unusedSimpArgs false
section
namespace Go.AL
def keepRow (rows : Rows) (rs : List Nat) (w : Row) : Row := ⟨normG w.gen, w.own, w.box, keepBody rows rs w.box w.body⟩
theorem lget_keepRows {rows : Rows} {rs : List Nat} : ∀ {l : List Nat} {r : Nat} {row' : Row}, lget (keepRows rows rs l) r = some row' → ∃ row, lget rows r = some row ∧ row' = keepRow rows rs row
 | [], _, _, h => by cases h
 | x :: l, r, row', h => by
  simp only [keepRows] at h
  split at h
  ·rename_i w hw
   simp only [lget] at h
   split at h
   ·rename_i e; subst e; obtain rfl := Option.some.inj h; exact ⟨w, hw, rfl⟩
   ·exact lget_keepRows h
  ·exact lget_keepRows h
theorem lget_keepRows_of {rows : Rows} {rs : List Nat} : ∀ {l : List Nat} {r : Nat} {row : Row}, r ∈ l → lget rows r = some row → lget (keepRows rows rs l) r = some (keepRow rows rs row)
 | [], _, _, h, _ => by cases h
 | x :: l, r, row, h, h0 => by
  simp only [keepRows]
  by_cases hx : x = r
  ·subst hx; rw [h0]; simp only [lget, if_pos]; rfl
  ·have hl : r ∈ l := by cases h with
    | head => exact absurd rfl hx
    | tail _ h => exact h
   split
   ·simp only [lget, if_neg hx]; exact lget_keepRows_of hl h0
   ·exact lget_keepRows_of hl h0
theorem lget_keepEnv {rows : Rows} {rs : List Nat} {env : Env} : ∀ {l : List Nat} {t : Nat}, (lget (keepEnv rows rs env l) t).getD .junk = .junk ∨ (lget (keepEnv rows rs env l) t).getD .junk = keepElem rows rs ((lget env t).getD .junk)
 | [], _ => .inl rfl
 | x :: l, t => by
  simp only [keepEnv, lget]
  split
  ·rename_i e; subst e; exact .inr rfl
  ·exact lget_keepEnv
theorem normG_eq {g : Nat} (h : normG g = 0) : g = 0 := by unfold normG at h; split at h <;> omega
section
variable {N PO : Nat → Prop} {w0 : Base} {w : World} {env : Env} {rows : Rows} {ce : Nat → Value} {Φ : Nat → Loc} {ss rs : List Nat}
theorem keep_av {b : Nat} (h : Av N (keepRows rows rs rs) Φ b) : Av N rows Φ b := by
 rcases h with h | ⟨r, row, o, h1, h2, h3⟩
 ·exact .inl h
 ·obtain ⟨row0, e1, rfl⟩ := lget_keepRows h1
  exact .inr ⟨r, row0, o, e1, h2, h3⟩
theorem keepBody_cells {row : Row} {es : Nat} {xs : List AV} (h : (keepRow rows rs row).body = .cells es xs) : ∃ xs', row.body = .cells es xs' := by
 simp only [keepRow, keepBody] at h
 split at h
 ·cases hb : row.body with
  | cells es' xs' => rw [hb] at h; simp at h; exact ⟨xs', by rw [h.1]⟩
  | map kk en => rw [hb] at h; cases h
 ·exact ⟨xs, h⟩
theorem keepBody_shape (row : Row) : sameShape row.body (keepRow rows rs row).body := by
 simp only [keepRow, keepBody]
 split
 ·cases row.body <;> simp [sameShape]
 ·cases row.body <;> simp [sameShape]
theorem keep_pl {p : Pl} {v x : AV} (h : keepPl rows rs p v = x) : x = .junk ∨ (x = v ∧ p.r ∈ rs ∧ ∃ row, lget rows p.r = some row ∧ row.gen = p.g) := by
 unfold keepPl at h
 split at h
 ·rename_i hl
  split at h
  ·rename_i row h0
   split at h
   ·rename_i hg; exact .inr ⟨h.symm, inL_iff.1 hl, row, h0, hg⟩
   ·exact .inl h.symm
  ·exact .inl h.symm
 ·exact .inl h.symm
theorem keep_data {x : AV} {v : Value} {H : AV → Value → Prop} (h : Rep w (Av N rows Φ) noH x v) : Rep w (Av N (keepRows rows rs rs) Φ) H x v :=
 Rep.mono (fun b hb _ => ⟨rfl, fun hb' => hb (keep_av hb')⟩) (Nat.le_refl _) (fun _ _ h => h.elim) h
theorem keep_rep {x : AV} {v : Value} (h : R N rows Φ w x v) : R N (keepRows rows rs rs) Φ w (keepAV rows rs x) v := by
 cases x with
 | hs p o n =>
  rcases keep_pl (rows := rows) (rs := rs) (p := p) (v := .hs ⟨p.r, normG p.g⟩ o n) rfl with e | ⟨e, hm, row, h0, hg⟩
  ·simp only [keepAV, e]; exact trivial
  ·simp only [keepAV, e]
   obtain ⟨a, cap, rfl, hc, hz, row', h0', hg', hh⟩ := h
   rw [h0] at h0'
   obtain rfl := Option.some.inj h0'
   refine ⟨a, cap, rfl, hc, hz, _, lget_keepRows_of hm h0, by simp only [keepRow, hg]; exact Nat.le_refl _, fun _ es xs hb => ?_⟩
   obtain ⟨xs', hb'⟩ := keepBody_cells hb
   exact hh hg es xs' hb'
 | hp p i j =>
  rcases keep_pl (rows := rows) (rs := rs) (p := p) (v := .hp ⟨p.r, normG p.g⟩ i j) rfl with e | ⟨e, hm, row, h0, hg⟩
  ·simp only [keepAV, e]; exact trivial
  ·simp only [keepAV, e]
   obtain ⟨a, rfl, row', h0', hg', hh⟩ := h
   rw [h0] at h0'
   obtain rfl := Option.some.inj h0'
   refine ⟨a, rfl, _, lget_keepRows_of hm h0, by simp only [keepRow, hg]; exact Nat.le_refl _, fun _ es xs hb => ?_⟩
   obtain ⟨xs', hb'⟩ := keepBody_cells hb
   exact hh hg es xs' hb'
 | hm p =>
  rcases keep_pl (rows := rows) (rs := rs) (p := p) (v := .hm ⟨p.r, normG p.g⟩) rfl with e | ⟨e, hm, row, h0, hg⟩
  ·simp only [keepAV, e]; exact trivial
  ·simp only [keepAV, e]
   obtain ⟨a, rfl, row', h0', hg', hh⟩ := h
   rw [h0] at h0'
   obtain rfl := Option.some.inj h0'
   exact ⟨a, rfl, _, lget_keepRows_of hm h0, by simp only [keepRow, hg]; exact Nat.le_refl _, fun _ => hh hg⟩
 | agg cs => exact trivial
 | tup cs => exact trivial
 | nst => exact trivial
 | junk => exact trivial
 | sc x => exact h
 | nil => exact h
 | sl es xs => exact keep_data h
 | dp es xs i j => exact keep_data h
 | it => exact keep_data (x := .it) (by simpa only [Rep] using h)
 | cl f cs => exact keep_data (x := .cl f cs) (by simpa only [Rep] using h)
theorem keep_repL : ∀ {xs : List AV} {vs : List Value}, RL N rows Φ w xs vs → RL N (keepRows rows rs rs) Φ w (keepCells rows rs xs) vs
 | [], [], _ => trivial
 | _ :: _, _ :: _, h => ⟨keep_rep h.1, keep_repL h.2⟩
 | [], _ :: _, h => h.elim
 | _ :: _, [], h => h.elim
theorem keep_elem {x : AV} {v : Value} (h : R N rows Φ w x v) : R N (keepRows rows rs rs) Φ w (keepElem rows rs x) v := by
 cases x with
 | agg cs => obtain ⟨vs, rfl, h1, h2⟩ := h; exact ⟨vs, rfl, h1, keep_repL h2⟩
 | _ => exact keep_rep h
theorem keep_row1 {b es : Nat} : ∀ {xs : List AV} {o : Nat}, RepRow w (Av N rows Φ) (Hd rows Φ w) xs b o es → RepRow w (Av N (keepRows rows rs rs) Φ) (Hd (keepRows rows rs rs) Φ w) (keepElems rows rs xs) b o es
 | [], _, _ => trivial
 | _ :: _, _, h => ⟨by
   obtain ⟨v, h1, h2, h3⟩ := h.1
   exact ⟨v, h1, h2, keep_elem h3⟩, keep_row1 h.2⟩
theorem keepElems_len : ∀ (xs : List AV), (keepElems rows rs xs).length = xs.length
 | [] => rfl
 | _ :: xs => by simp [keepElems, keepElems_len xs]
theorem keep_row {r : Nat} {row : Row} (h : RowRel w N rows Φ r row) : RowRel w N (keepRows rows rs rs) Φ r (keepRow rows rs row) := by
 unfold RowRel at *
 cases hb : row.body with
 | map kk en =>
  rw [hb] at h
  obtain ⟨b, es, clk, h1, h2, h3, h4, h5⟩ := h
  have e : (keepRow rows rs row).body = .map kk en := by simp [keepRow, keepBody, h4, hb]
  rw [e]
  exact ⟨b, es, clk, h1, h2, h3, h4, EntsRel.mono (fun b hb _ => ⟨rfl, fun hb' => hb (keep_av hb')⟩) (Nat.le_refl _) h5⟩
 | cells es xs =>
  rw [hb] at h
  simp only at h
  cases hbx : row.box with
  | false =>
   have e : (keepRow rows rs row).body = .cells es xs := by simp [keepRow, keepBody, hbx, hb]
   rw [e]
   simp only [keepRow, hbx]
   rw [hbx] at h
   cases hΦ : Φ r with
   | none => rw [hΦ] at h; exact ⟨h.1, trivial⟩
   | some y =>
    obtain ⟨b, ob⟩ := y
    rw [hΦ] at h
    obtain ⟨h1, h2, h3, h4⟩ := h
    refine ⟨RepRow.mono (fun b hb _ => ⟨rfl, fun hb' => hb (keep_av hb')⟩) (Nat.le_refl _) (fun _ _ h => h) rfl h1, h2, fun e hb' => h3 e (keep_av hb'), h4⟩
  | true =>
   have e : (keepRow rows rs row).body = .cells es (keepElems rows rs xs) := by simp [keepRow, keepBody, hbx, hb]
   rw [e]
   simp only [keepRow, hbx]
   rw [hbx] at h
   cases hΦ : Φ r with
   | none => rw [hΦ] at h; cases h.2
   | some y =>
    obtain ⟨b, ob⟩ := y
    rw [hΦ] at h
    obtain ⟨h1, h2, h3, h4⟩ := h
    refine ⟨keep_row1 h1, h2, fun e hb' => h3 e (keep_av hb'), fun e => ?_⟩
    obtain ⟨c, e', c1, c2⟩ := h4 e
    exact ⟨c, e', c1, by rw [keepElems_len]; exact c2⟩
theorem keep_core (h : Core N PO w0 ⟨env, rows⟩ ce w Φ) : Core N PO w0 (keep ss rs ⟨env, rows⟩) ce w Φ := by
 refine ⟨h.os, h.tape, h.output, h.size, h.old, h.nlt, h.grows, ?_, ?_, ?_, ?_, ?_⟩
 ·intro r row' h1 h2
  obtain ⟨row, h0, rfl⟩ := lget_keepRows h1
  obtain ⟨t1, row0, t2, t3, t4⟩ := h.gen0 r row h0 (normG_eq h2)
  exact ⟨t1, row0, t2, sameShape_trans t3 (keepBody_shape row), t4⟩
 ·intro t
  show R N (keepRows rows rs rs) Φ w ((lget (keepEnv rows rs env ss) t).getD .junk) (ce t)
  rcases lget_keepEnv (rows := rows) (rs := rs) (env := env) (l := ss) (t := t) with e | e
  ·rw [e]; exact trivial
  ·rw [e]; exact keep_elem (h.env t)
 ·intro r row' h1
  obtain ⟨row, h0, rfl⟩ := lget_keepRows h1
  exact keep_row (h.rows r row h0)
 ·intro r r' row row' b o o' h1 h2 h3 h4
  obtain ⟨row1, e1, rfl⟩ := lget_keepRows h1
  obtain ⟨row2, e2, rfl⟩ := lget_keepRows h2
  exact h.inj r r' row1 row2 b o o' e1 e2 h3 h4
 ·intro r row b o h1 h2
  obtain ⟨row1, e1, rfl⟩ := lget_keepRows h1
  exact h.mine r row1 b o e1 h2
end
end Go.AL
end
section
namespace Go.AL
theorem bool_ne {b c : Bool} (h : ¬ b = c) : b = (!c) := by cases b <;> cases c <;> first | rfl | exact absurd rfl h
structure Inv (n : Nat) (N PO : Nat → Prop) (w0 : Base) (σ : St) (a : Act) (w : World) : Prop where
 defers : a.defers = []
 size : n ≤ a.tmps.size
 core : ∃ Φ, Core N PO w0 σ a.val w Φ
section
variable {n : Nat} {N PO : Nat → Prop} {w0 : Base} {σ : St} {a : Act} {w : World}
variable {P : Program} {C : FuncId → List PA → CRes → Prop} {d : Bool} {rs rr : List Nat} {sm : FuncId → Nat → Bool}
theorem val_put {d t : Nat} {v : Value} (h : d < a.tmps.size) : (a.put (some d) v).val t = if d = t then v else a.val t := by
 simp only [Act.put, Act.val]
 by_cases e : d = t
 ·subst e; simp [h]
 ·simp [e, Array.getElem?_setIfInBounds_ne e]
theorem put_size {dst : Option Nat} {v : Value} : (a.put dst v).tmps.size = a.tmps.size := by
 cases dst <;> simp [Act.put]
theorem put_defers {dst : Option Nat} {v : Value} : (a.put dst v).defers = a.defers := by
 cases dst <;> rfl
theorem inv_put {w' : World} (hd : a.defers = []) (hs : n ≤ a.tmps.size) {dst : Option Nat} (hdst : ∀ d, dst = some d → d < n) {ef : Eff} {v : Value}
  (hf : Fine N PO w0 σ.env a.val (putRows σ.rows ef.rows) w' ef.val v) : Inv n N PO w0 (σ.app dst ef) (a.put dst v) w' := by
 obtain ⟨Φ, hc, hr⟩ := hf
 refine ⟨by rw [put_defers, hd], by rw [put_size]; exact hs, Φ, ?_⟩
 cases dst with
 | none => exact hc
 | some d =>
  have e : (a.put (some d) v).val = fun t => if d = t then v else a.val t := by
   funext t
   exact val_put (Nat.lt_of_lt_of_le (hdst d rfl) hs)
  rw [e]
  exact hc.put d hr
theorem inv_skip (h : Inv n N PO w0 σ a w) {dst : Option Nat} (hdst : ∀ d, dst = some d → d < n) : Inv n N PO w0 (σ.app dst { val := .tup [] }) (a.put dst undef) w := by
 obtain ⟨Φ, hc⟩ := h.core
 exact inv_put h.defers h.size hdst ⟨Φ, hc, #[], rfl, trivial⟩
theorem RL_append {rows : Rows} {Φ : Nat → Loc} : ∀ {xs ys : List AV} {us vs : List Value}, RL N rows Φ w xs us → RL N rows Φ w ys vs → RL N rows Φ w (xs ++ ys) (us ++ vs)
 | [], _, [], _, _, h => h
 | _ :: _, _, _ :: _, _, h1, h2 => ⟨h1.1, RL_append h1.2 h2⟩
 | [], _, _ :: _, _, h, _ => h.elim
 | _ :: _, _, [], _, h, _ => h.elim
theorem RL_values {rows : Rows} {Φ : Nat → Loc} : ∀ (vs : List Value), RL N rows Φ w (vs.map ofValue) vs
 | [] => trivial
 | _ :: vs => ⟨Rep_ofValue, RL_values vs⟩
theorem step_sound (hC : ∀ f as r, C f as r → SemCtr P f as r) (hI : Inv n N PO w0 σ a w) (o : Oper) (hdst : ∀ d, o.dst = some d → d < n) {K : Eff → List Nat → List Nat → Prop} (hh : (astep sm P o).wp C d σ rs rr K)
  {Q : Exit → Act → World → Prop} {next : Act → World → Prop} (hn : ∀ ef rs rr a' w', K ef rs rr → Inv n N PO w0 (σ.app o.dst ef) a' w' → next a' w') : o.wp P a w next Q := by
 obtain ⟨Φ, hc⟩ := hI.core
 obtain ⟨env, rows⟩ := σ
 unfold Oper.wp
 by_cases hcall : ∃ c f, o.op = .call c ∧ c.callee = .value f
 ·obtain ⟨c, f, e1, e2⟩ := hcall
  simp only [astep, e1, callOpA, e2] at hh
  rw [RM.wp_bind] at hh
  obtain ⟨fv, rs1, hh, hf⟩ := opd_sound hc hh
  split at hh
  ·rename_i g first captured
   obtain ⟨hf, _⟩ := hf
   rw [RM.wp_bind] at hh
   obtain ⟨vs, rs2, hh, h1⟩ := opds_sound hc hh
   obtain ⟨hcf, hcalls⟩ := callA_sound hC hc (RL_append (RL_values first.toList) (RL_append h1 (RL_values captured.toList))) hh
   have hargs : (first ++ c.args.map a.eval) ++ captured = (first.toList ++ (c.args.toList.map a.eval ++ captured.toList)).toArray := by
    apply Array.ext'; simp
   have hrun : (execOp a.eval o).run P w = .ok (.enter g (first.toList ++ (c.args.toList.map a.eval ++ captured.toList)).toArray) w := by
    simp only [execOp, e1, resolve, e2, hf, Deferred.ofValue, invoke, Sem.run_bind, Sem.run_pure, Result.andThen_ok, hargs, hcf]
   rw [hrun, Oper.upon_enter]
   refine Calls.mono hcalls ?_
   rintro e w' ⟨v, rfl, ef, rs', rr', hK, hfine⟩
   exact hn ef rs' rr' _ _ hK (inv_put hI.defers hI.size hdst hfine)
  ·rename_i g cs
   obtain ⟨vc, hf, hcs⟩ := hf
   rw [RM.wp_bind] at hh
   obtain ⟨vs, rs2, hh, h1⟩ := opds_sound hc hh
   have hcs' : RL N rows Φ w cs vc.toList := RepL.mono (fun _ hb _ => ⟨rfl, hb⟩) (Nat.le_refl _) (fun _ _ h => h.elim) hcs
   obtain ⟨hcf, hcalls⟩ := callA_sound hC hc (RL_append h1 hcs') hh
   have hargs : (#[] ++ c.args.map a.eval) ++ vc = (c.args.toList.map a.eval ++ vc.toList).toArray := by
    apply Array.ext'; simp
   have hrun : (execOp a.eval o).run P w = .ok (.enter g (c.args.toList.map a.eval ++ vc.toList).toArray) w := by
    simp only [execOp, e1, resolve, e2, hf, Deferred.ofValue, invoke, Sem.run_bind, Sem.run_pure, Result.andThen_ok, hargs, hcf]
   rw [hrun, Oper.upon_enter]
   refine Calls.mono hcalls ?_
   rintro e w' ⟨v, rfl, ef, rs', rr', hK, hfine⟩
   exact hn ef rs' rr' _ _ hK (inv_put hI.defers hI.size hdst hfine)
  ·exact hh.elim
 ·have hb : ∀ c, o.op = .call c → ∃ b, c.callee = .builtin b := by
   intro c e1
   cases hcc : c.callee with
   | builtin b => exact ⟨b, rfl⟩
   | value f => exact absurd ⟨c, f, e1, hcc⟩ hcall
   | invoke r m =>
    exfalso
    simp only [astep, e1, callOpA, hcc] at hh
    exact hh
  obtain ⟨ef, rs', rr', v, w', hK, hdid, hfine⟩ := astep_sound hc o hb hh
  have hi := inv_put (σ := ⟨env, rows⟩) hI.defers hI.size hdst hfine
  rcases hdid with e | ⟨e, rfl⟩
  ·rw [e, Oper.upon_value]; exact hn ef rs' rr' _ _ hK hi
  ·rw [e, Oper.upon_skip]; exact hn ef rs' rr' _ _ hK hi
theorem slot_bool (hI : Inv n N PO w0 σ a w) {t : Nat} {b : Bool} (h : σ.slot t = .sc (.bool b)) : a.tmps[t]? = some (.bool b) := by
 obtain ⟨Φ, hc⟩ := hI.core
 have := hc.env t
 rw [h] at this
 obtain ⟨e, _⟩ := this
 simp only [Act.val, Array.getD_eq_getD_getElem?] at e
 cases hq : a.tmps[t]? with
 | none => rw [hq] at e; simp [undef] at e
 | some v => rw [hq] at e; simp at e; rw [e]
theorem slot_skip (hI : Inv n N PO w0 σ a w) {t : Nat} (h : σ.slot t = .tup []) : a.tmps[t]? = none ∨ a.tmps[t]? = some (.tuple #[]) := by
 obtain ⟨Φ, hc⟩ := hI.core
 have := hc.env t
 rw [h] at this
 obtain ⟨vs, e, hl⟩ := this
 simp only [Act.val, Array.getD_eq_getD_getElem?] at e
 have hvs : vs = #[] := by
  cases h2 : vs.toList with
  | nil => exact Array.toList_eq_nil_iff.1 h2
  | cons x l => rw [h2] at hl; exact hl.elim
 subst hvs
 cases hq : a.tmps[t]? with
 | none => exact .inl rfl
 | some v => rw [hq] at e; simp at e; rw [e]; exact .inr rfl
theorem op_sound (hC : ∀ f as r, C f as r → SemCtr P f as r) (hI : Inv n N PO w0 σ a w) {ops : Array Oper} {o : Oper} (hdst : ∀ d, o.dst = some d → d < n) (hg : ∀ j b, o.guard = some (j, b) → ((ops[j]?).bind (·.dst)).isSome = true) {K : St → FP → Prop} (hh : awpOp sm C P d ops o σ K)
  {Q : Exit → Act → World → Prop} {next : Act → World → Prop} (hn : ∀ σ' fp a' w', K σ' fp → Inv n N PO w0 σ' a' w' → next a' w') :
  if Region.wanted o (yielded ops a.tmps) then o.wp P a w next Q else next (a.put o.dst undef) w := by
 unfold awpOp at hh
 cases hgu : o.guard with
 | none =>
  rw [hgu] at hh
  have : Region.wanted o (yielded ops a.tmps) = true := by simp [Region.wanted, hgu]
  rw [if_pos this]
  exact step_sound hC hI o hdst hh fun ef rs rr a' w' hK hi => hn _ _ _ _ hK hi
 | some jw =>
  obtain ⟨j, want⟩ := jw
  rw [hgu] at hh
  simp only at hh
  obtain ⟨t, ht⟩ := Option.isSome_iff_exists.1 (hg j want hgu)
  have hgs : guardSlot ops j = t := by unfold guardSlot; rw [ht]; rfl
  rw [hgs] at hh
  unfold guardA at hh
  split at hh
  ·rename_i b hb
   have hy : yielded ops a.tmps j = some b := by
    unfold yielded
    rw [ht, Option.bind_some, slot_bool hI hb]
   by_cases hbw : b = want
   ·have : Region.wanted o (yielded ops a.tmps) = true := by simp [Region.wanted, hgu, hy, hbw]
    rw [if_pos this]
    exact step_sound hC hI o hdst (hh.1 hbw) fun ef rs rr a' w' hK hi => hn _ _ _ _ hK hi
   ·have hbw' : b = (!want) := bool_ne hbw
    have : Region.wanted o (yielded ops a.tmps) = false := by simp [Region.wanted, hgu, hy, hbw]
    rw [if_neg (by rw [this]; simp)]
    exact hn _ _ _ _ (hh.2 hbw') (inv_skip hI hdst)
  ·rename_i hb
   have hy : yielded ops a.tmps j = none := by
    unfold yielded
    rw [ht, Option.bind_some]
    rcases slot_skip hI hb with e | e <;> rw [e]
   have : Region.wanted o (yielded ops a.tmps) = false := by simp [Region.wanted, hgu, hy]
   rw [if_neg (by rw [this]; simp)]
   exact hn _ _ _ _ hh (inv_skip hI hdst)
  ·exact hh.elim
def RegOK (n : Nat) (ops : Array Oper) : Prop := ∀ (i : Nat) (o : Oper), ops[i]? = some o → (∀ d, o.dst = some d → d < n) ∧ ∀ (j : Nat) (b : Bool), o.guard = some (j, b) → ((ops[j]?).bind (·.dst)).isSome = true
theorem regOK {id : Nat} {ops : Array Oper} {dr : Bool} (h : dstOK n (.region id ops dr) = true) : RegOK n ops := by
 intro i o ho
 simp only [dstOK, List.all_eq_true] at h
 have := h o (by rw [Array.mem_toList_iff]; exact Array.mem_of_getElem? ho)
 rw [Bool.and_eq_true] at this
 refine ⟨fun d hd => ?_, fun j b hg => ?_⟩
 ·have h1 := this.1; rw [hd] at h1; exact of_decide_eq_true h1
 ·have h1 := this.2; rw [hg] at h1; exact h1
theorem ops_sound (hC : ∀ f as r, C f as r → SemCtr P f as r) {ops : Array Oper} (hok : RegOK n ops) {Q : Exit → Act → World → Prop} {K : St → Prop} (hQ : ∀ σ a w, K σ → Inv n N PO w0 σ a w → Q .normal a w) :
  ∀ (l : List Oper) (i : Nat), ops.toList.drop i = l → ∀ {σ : St} {a : Act} {w : World}, Inv n N PO w0 σ a w → awpOps sm C P ops l σ K → wpOps P ops Q (List.range' i l.length) a w
 | [], i, _, σ, a, w, hI, hh => hQ _ _ _ hh hI
 | o :: l, i, hl, σ, a, w, hI, hh => by
  have ho : ops[i]? = some o := by
   have : (ops.toList.drop i)[0]? = some o := by rw [hl]; rfl
   simpa using this
  have hl' : ops.toList.drop (i + 1) = l := by
   have : (ops.toList.drop i).drop 1 = l := by rw [hl]; rfl
   rwa [List.drop_drop] at this
  obtain ⟨h1, h2⟩ := hok i o ho
  have := op_sound hC hI h1 h2 hh (Q := Q) (next := wpOps P ops Q (List.range' (i + 1) l.length)) fun σ' fp a' w' hK hi => ops_sound hC hok hQ l (i + 1) hl' hi hK
  rw [List.length_cons, List.range'_succ, wpOps_cons]
  unfold wpOp
  rw [ho]
  simp only
  split
  ·rename_i hw; rw [if_pos hw] at this; exact .inl this
  ·rename_i hw; rw [if_neg hw] at this; exact this
end
end Go.AL
end
section
namespace Go.AL
section
variable {P : Program} {C : FuncId → List PA → CRes → Prop} {sm : FuncId → Nat → Bool}
abbrev Does (C : FuncId → List PA → CRes → Prop) {α : Type} (m : RM α) (σ : St) (rs rr : List Nat) (x : α) (rs' rr' : List Nat) : Prop := m.wp C true σ rs rr fun y a b => y = x ∧ a = rs' ∧ b = rr'
theorem wp_does {α : Type} (m : RM α) : ∀ {σ : St} {rs rr : List Nat} {K : α → List Nat → List Nat → Prop}, m.wp C true σ rs rr K → ∃ x rs' rr', K x rs' rr' ∧ Does C m σ rs rr x rs' rr' := by
 induction m with
 | ret a => exact fun h => ⟨a, _, _, h, rfl, rfl, rfl⟩
 | slot t k ih => exact fun h => ih _ h
 | row r k ih => exact fun h => ih _ h
 | req p k ih => exact fun h => let ⟨x, a, b, h1, h2⟩ := ih h.2; ⟨x, a, b, h1, h.1, h2⟩
 | any k ih => exact fun h => Bool.noConfusion h.1
 | call f as k ih => exact fun ⟨r, h, h'⟩ => let ⟨x, a, b, h1, h2⟩ := ih _ h'; ⟨x, a, b, h1, r, h, h2⟩
 | fail => exact fun h => h.elim
theorem does_sub {α : Type} (m : RM α) : ∀ {σ : St} {rs rr : List Nat} {x : α} {rs' rr' : List Nat}, Does C m σ rs rr x rs' rr' → (∀ t ∈ rs, t ∈ rs') ∧ (∀ t ∈ rr, t ∈ rr') := by
 induction m with
 | ret a => rintro σ rs rr x rs' rr' ⟨_, rfl, rfl⟩; exact ⟨fun _ h => h, fun _ h => h⟩
 | slot t k ih => exact fun h => ⟨fun t ht => (ih _ h).1 t (.tail _ ht), (ih _ h).2⟩
 | row r k ih => exact fun h => ⟨(ih _ h).1, fun t ht => (ih _ h).2 t (.tail _ ht)⟩
 | req p k ih => exact fun h => ih h.2
 | any k ih => exact fun h => Bool.noConfusion h.1
 | call f as k ih => exact fun ⟨r, h, h'⟩ => ih _ h'
 | fail => exact fun h => h.elim
theorem does_local {α : Type} (m : RM α) : ∀ {σ σ' : St} {rs rr : List Nat} {x : α} {rs' rr' : List Nat}, Does C m σ rs rr x rs' rr' → (∀ t ∈ rs', σ.slot t = σ'.slot t) → (∀ r ∈ rr', lget σ.rows r = lget σ'.rows r) → Does C m σ' rs rr x rs' rr' := by
 induction m with
 | ret a => exact fun h _ _ => h
 | slot t k ih =>
  intro σ σ' rs rr x rs' rr' h h1 h2
  have := ih _ h h1 h2
  show Does C (k (σ'.slot t)) σ' (t :: rs) rr x rs' rr'
  rw [← h1 t ((does_sub (k (σ.slot t)) h).1 t (.head _))]
  exact this
 | row r k ih =>
  intro σ σ' rs rr x rs' rr' h h1 h2
  have := ih _ h h1 h2
  show Does C (k (lget σ'.rows r)) σ' rs (r :: rr) x rs' rr'
  rw [← h2 r ((does_sub (k (lget σ.rows r)) h).2 r (.head _))]
  exact this
 | req p k ih => exact fun h h1 h2 => ⟨h.1, ih h.2 h1 h2⟩
 | any k ih => exact fun h => Bool.noConfusion h.1
 | call f as k ih => exact fun ⟨r, h, h'⟩ h1 h2 => ⟨r, h, ih _ h' h1 h2⟩
 | fail => exact fun h => h.elim

def Op1 (sm : FuncId → Nat → Bool) (C : FuncId → List PA → CRes → Prop) (P : Program) (ops : Array Oper) (o : Oper) (σ : St) (e : Eff) (fp : FP) : Prop :=
 fp.rw = e.rows.map (·.1) ∧ match o.guard with
 | none => Does C (astep sm P o) σ [] [] e fp.rs fp.rr
 | some (j, want) => guardSlot ops j ∈ fp.rs ∧ ((∃ b, σ.slot (guardSlot ops j) = .sc (.bool b) ∧ if b = want then Does C (astep sm P o) σ [guardSlot ops j] [] e fp.rs fp.rr else e = { val := .tup [] }) ∨ (σ.slot (guardSlot ops j) = .tup [] ∧ e = { val := .tup [] }))
theorem op1_of {ops : Array Oper} {o : Oper} {σ : St} {K : St → FP → Prop} (h : awpOp sm C P true ops o σ K) : ∃ e fp, K (σ.app o.dst e) fp ∧ Op1 sm C P ops o σ e fp := by
 unfold awpOp at h
 unfold Op1
 cases hg : o.guard with
 | none =>
  rw [hg] at h
  obtain ⟨x, a, b, h1, h2⟩ := wp_does _ h
  exact ⟨x, _, h1, rfl, h2⟩
 | some jw =>
  obtain ⟨j, want⟩ := jw
  rw [hg] at h
  simp only at h ⊢
  unfold guardA at h
  split at h
  ·rename_i b hb
   by_cases hbw : b = want
   ·obtain ⟨x, a, b', h1, h2⟩ := wp_does _ (h.1 hbw)
    exact ⟨x, _, h1, rfl, (does_sub _ h2).1 _ (.head _), .inl ⟨b, hb, by rw [if_pos hbw]; exact h2⟩⟩
   ·have hbw' : b = (!want) := bool_ne hbw
    exact ⟨_, _, h.2 hbw', rfl, .head _, .inl ⟨b, hb, by rw [if_neg hbw]⟩⟩
  ·rename_i hb
   exact ⟨_, _, h, rfl, .head _, .inr ⟨hb, rfl⟩⟩
  ·exact h.elim
theorem op1_to {ops : Array Oper} {o : Oper} {σ : St} {e : Eff} {fp : FP} (h : Op1 sm C P ops o σ e fp) : awpOp sm C P true ops o σ fun σ' _ => σ' = σ.app o.dst e := by
 obtain ⟨h0, h⟩ := h
 unfold awpOp
 cases hg : o.guard with
 | none =>
  rw [hg] at h
  exact RM.wp_mono (fun _ _ _ h => h) _ (fun y a b h => by rw [h.1]) h
 | some jw =>
  obtain ⟨j, want⟩ := jw
  rw [hg] at h
  rcases h with ⟨_, ⟨b, hb, h⟩ | ⟨hb, h⟩⟩
  rotate_left
  ·simp only
   rw [hb, h]
   exact rfl
  simp only
  rw [hb]
  refine ⟨fun e1 => ?_, fun e1 => ?_⟩
  ·rw [if_pos e1] at h
   exact RM.wp_mono (fun _ _ _ h => h) _ (fun y a b h => by rw [h.1]) h
  ·rw [if_neg (by rw [e1]; cases want <;> simp)] at h
   rw [h]
theorem op1_local {ops : Array Oper} {o : Oper} {σ σ' : St} {e : Eff} {fp : FP} (h : Op1 sm C P ops o σ e fp) (h1 : ∀ t ∈ fp.rs, σ.slot t = σ'.slot t) (h2 : ∀ r ∈ fp.rr, lget σ.rows r = lget σ'.rows r) : Op1 sm C P ops o σ' e fp := by
 obtain ⟨h0, h⟩ := h
 refine ⟨h0, ?_⟩
 cases hg : o.guard with
 | none => rw [hg] at h; exact does_local _ h h1 h2
 | some jw =>
  obtain ⟨j, want⟩ := jw
  rw [hg] at h
  rcases h with ⟨h3, ⟨b, hb, h⟩ | ⟨hb, h⟩⟩
  rotate_left
  ·exact ⟨h3, .inr ⟨by rw [← h1 _ h3]; exact hb, h⟩⟩
  refine ⟨h3, .inl ⟨b, by rw [← h1 _ h3]; exact hb, ?_⟩⟩
  split
  ·rename_i e1; rw [if_pos e1] at h; exact does_local _ h h1 h2
  ·rename_i e1; rw [if_neg e1] at h; exact h

def fold : Nat → List (Oper × Eff) → (Nat → Bool) → St → St
 | _, [], _, σ => σ
 | i, (o, e) :: l, S, σ => fold (i + 1) l S (if S i then σ.app o.dst e else σ)
theorem fold_congr : ∀ {l : List (Oper × Eff)} {i : Nat} {S S' : Nat → Bool} {σ : St}, (∀ j, i ≤ j → j < i + l.length → S j = S' j) → fold i l S σ = fold i l S' σ
 | [], _, _, _, _, _ => rfl
 | (o, e) :: l, i, S, S', σ, h => by
  simp only [fold]
  rw [h i (Nat.le_refl _) (by simp)]
  exact fold_congr fun j h1 h2 => h j (by omega) (by simp at h2 ⊢; omega)
def Looks {β : Type} (f : St → β) (l : List (Oper × Eff)) (i : Nat) (W : Nat → Bool) (c : Nat → β) : Prop :=
 ∀ (j : Nat) (o : Oper) (e : Eff), l[j]? = some (o, e) → (W (i + j) = true → ∀ σ : St, f (σ.app o.dst e) = c (i + j)) ∧ (W (i + j) = false → ∀ σ : St, f (σ.app o.dst e) = f σ)
theorem Looks.tail {β : Type} {f : St → β} {x : Oper × Eff} {l : List (Oper × Eff)} {i : Nat} {W : Nat → Bool} {c : Nat → β} (h : Looks f (x :: l) i W c) : Looks f l (i + 1) W c := by
 intro j o e hj
 have := h (j + 1) o e (by simpa using hj)
 rwa [show i + (j + 1) = i + 1 + j by omega] at this
theorem fold_same {β : Type} {f : St → β} {W : Nat → Bool} {c : Nat → β} : ∀ {l : List (Oper × Eff)} {i : Nat} {S S' : Nat → Bool} {σ σ' : St}, Looks f l i W c → (∀ j, i ≤ j → j < i + l.length → S j ≠ S' j → W j = false) → f σ = f σ' → f (fold i l S σ) = f (fold i l S' σ')
 | [], _, _, _, _, _, _, _, h => h
 | (o, e) :: l, i, S, S', σ, σ', hl, hw, h => by
  simp only [fold]
  refine fold_same hl.tail (fun j h1 h2 => hw j (by omega) (by simp at h2 ⊢; omega)) ?_
  obtain ⟨h1, h2⟩ := hl 0 o e rfl
  rw [Nat.add_zero] at h1 h2
  cases hs : S i <;> cases hs' : S' i
  ·simpa using h
  ·simp only [if_true, Bool.false_eq_true, if_false]
   rw [h2 (hw i (Nat.le_refl _) (by simp) (by rw [hs, hs']; simp))]; exact h
  ·simp only [if_true, Bool.false_eq_true, if_false]
   rw [h2 (hw i (Nat.le_refl _) (by simp) (by rw [hs, hs']; simp))]; exact h
  ·simp only [if_true]
   cases hWi : W i with
   | true => rw [h1 hWi, h1 hWi]
   | false => rw [h2 hWi, h2 hWi]; exact h
theorem fold_keep {β : Type} {f : St → β} {W : Nat → Bool} {c : Nat → β} : ∀ {l : List (Oper × Eff)} {i : Nat} {S : Nat → Bool} {σ : St}, Looks f l i W c → (∀ j, i ≤ j → j < i + l.length → S j = true → W j = false) → f (fold i l S σ) = f σ
 | [], _, _, _, _, _ => rfl
 | (o, e) :: l, i, S, σ, hl, hw => by
  simp only [fold]
  rw [fold_keep hl.tail fun j h1 h2 => hw j (by omega) (by simp at h2 ⊢; omega)]
  cases hs : S i with
  | false => simp
  | true =>
   simp only [if_true]
   have := (hl 0 o e rfl).2
   rw [Nat.add_zero] at this
   exact this (hw i (Nat.le_refl _) (by simp) hs) σ
theorem fold_last {β : Type} {f : St → β} {W : Nat → Bool} {c : Nat → β} : ∀ {l : List (Oper × Eff)} {i k : Nat} {S : Nat → Bool} {σ : St}, Looks f l i W c → i ≤ k → k < i + l.length → S k = true → W k = true → (∀ j, k < j → j < i + l.length → S j = true → W j = false) → f (fold i l S σ) = c k
 | [], i, k, _, _, _, h1, h2, _, _, _ => by simp at h2; omega
 | (o, e) :: l, i, k, S, σ, hl, h1, h2, h3, h4, h5 => by
  simp only [fold]
  by_cases hk : k = i
  ·subst hk
   rw [fold_keep hl.tail fun j a b => h5 j (by omega) (by simp at b ⊢; omega), h3]
   simp only [if_true]
   have := (hl 0 o e rfl).1
   rw [Nat.add_zero] at this
   exact this h4 σ
  ·exact fold_last hl.tail (by omega) (by simp at h2; omega) h3 h4 fun j a b => h5 j a (by simp at b ⊢; omega)
theorem putRows_has {ρ ρ' : Rows} : ∀ {wr : Wr} {r : Nat}, r ∈ wr.map (·.1) → lget (putRows ρ wr) r = lget (putRows ρ' wr) r := by
 intro wr
 have key : ∀ (wr : Wr) (ρ ρ' : Rows) (r : Nat), lget ρ r = lget ρ' r ∨ r ∈ wr.map (·.1) → lget (putRows ρ wr) r = lget (putRows ρ' wr) r := by
  intro wr
  induction wr with
  | nil => intro ρ ρ' r h; rcases h with h | h; exact h; simp at h
  | cons x wr ih =>
   obtain ⟨k, v⟩ := x
   intro ρ ρ' r h
   simp only [putRows]
   refine ih _ _ _ ?_
   by_cases hk : k = r
   ·left; subst hk; rw [lget_lput_same, lget_lput_same]
   ·rcases h with h | h
    ·left; rw [lget_lput_ne _ (fun e => hk e.symm), lget_lput_ne _ (fun e => hk e.symm)]; exact h
    ·right
     simp only [List.map_cons, List.mem_cons] at h
     exact h.resolve_left fun e => hk e.symm
 exact fun {r} h => key wr ρ ρ' r (.inr h)
theorem putRows_not : ∀ {wr : Wr} {ρ : Rows} {r : Nat}, r ∉ wr.map (·.1) → lget (putRows ρ wr) r = lget ρ r
 | [], _, _, _ => rfl
 | (k, v) :: wr, ρ, r, h => by
  simp only [List.map_cons, List.mem_cons, not_or] at h
  simp only [putRows]
  rw [putRows_not h.2, lget_lput_ne _ h.1]
theorem app_slot (σ : St) (dst : Option Nat) (e : Eff) (t : Nat) : (σ.app dst e).slot t = if dst = some t then e.val else σ.slot t := by
 cases dst with
 | none => simp [St.app, St.slot]
 | some d =>
  simp only [St.app, St.slot, lget, Option.some.injEq]
  split <;> rfl
def slotW (T : List (Oper × Eff)) (t j : Nat) : Bool := match T[j]? with | some (o, _) => o.dst == some t | none => false
def slotC (T : List (Oper × Eff)) (j : Nat) : AV := match T[j]? with | some (_, e) => e.val | none => .junk
theorem looks_slot (T : List (Oper × Eff)) (t : Nat) : Looks (fun σ => σ.slot t) T 0 (slotW T t) (slotC T) := by
 intro j o e hj
 simp only [Nat.zero_add, slotW, slotC, hj, app_slot]
 refine ⟨fun h σ => ?_, fun h σ => ?_⟩
 ·rw [if_pos (by simpa using h)]
 ·rw [if_neg (by simpa using h)]
def rowW (T : List (Oper × Eff)) (r j : Nat) : Bool := match T[j]? with | some (_, e) => (e.rows.map (·.1)).contains r | none => false
def rowC (T : List (Oper × Eff)) (r j : Nat) : Option Row := match T[j]? with | some (_, e) => lget (putRows [] e.rows) r | none => none
theorem looks_row (T : List (Oper × Eff)) (r : Nat) : Looks (fun σ => lget σ.rows r) T 0 (rowW T r) (rowC T r) := by
 intro j o e hj
 simp only [Nat.zero_add, rowW, rowC, hj]
 refine ⟨fun h σ => ?_, fun h σ => ?_⟩
 ·exact putRows_has (by simpa using h)
 ·exact putRows_not (by simpa using h)
end
end Go.AL
end
section
namespace Go.AL
theorem fold_shift {S : Nat → Bool} : ∀ {l : List (Oper × Eff)} {i : Nat} {σ : St}, fold (i + 1) l S σ = fold i l (fun k => S (k + 1)) σ
 | [], _, _ => rfl
 | (o, e) :: l, i, σ => by simp only [fold]; exact fold_shift
theorem fold_none {S : Nat → Bool} : ∀ {l : List (Oper × Eff)} {i : Nat} {σ : St}, (∀ j, S j = false) → fold i l S σ = σ
 | [], _, _, _ => rfl
 | (o, e) :: l, i, σ, h => by simp only [fold, h i, Bool.false_eq_true, if_false]; exact fold_none h
section
variable {P : Program} {C : FuncId → List PA → CRes → Prop} {sm : FuncId → Nat → Bool} {ops : Array Oper}
theorem trace {K : St → Prop} : ∀ (l : List Oper) (fps : List FP) (σ : St), awpOpsD sm C P ops l fps σ K → ∃ es : List (Eff × FP), es.length = l.length ∧ calm ops (fps ++ es.map (·.2)) = true ∧ K (fold 0 (l.zip (es.map (·.1))) (fun _ => true) σ) ∧
  ∀ j o, l[j]? = some o → ∃ e fp, es[j]? = some (e, fp) ∧ Op1 sm C P ops o (fold 0 (l.zip (es.map (·.1))) (fun k => decide (k < j)) σ) e fp
 | [], fps, σ, h => ⟨[], rfl, by rw [List.map_nil, List.append_nil]; exact h.1, h.2, fun j o h => by simp at h⟩
 | o :: l, fps, σ, h => by
  obtain ⟨e, fp, h1, h2⟩ := op1_of h
  obtain ⟨es, g1, g2, g3, g4⟩ := trace l _ _ h1
  refine ⟨(e, fp) :: es, by simp [g1], by simpa using g2, ?_, ?_⟩
  ·simp only [List.map_cons, List.zip_cons_cons, fold, if_true]
   rw [fold_shift]; exact g3
  ·intro j o' hj
   cases j with
   | zero =>
    simp at hj; subst hj
    refine ⟨e, fp, rfl, ?_⟩
    rw [fold_none (fun j => by simp)]
    exact h2
   | succ j =>
    obtain ⟨e', fp', k1, k2⟩ := g4 j o' (by simpa using hj)
    refine ⟨e', fp', by simpa using k1, ?_⟩
    simp only [List.map_cons, List.zip_cons_cons, fold, Nat.zero_lt_succ, decide_true, if_true]
    rw [fold_shift]
    simpa using k2

theorem foldl_bit (acc : List Nat) (i : Nat) : ∀ (ps : List Nat) (s : Nat), (ps.foldl (fun s p => s ||| (2 ^ p ||| acc.getD p 0)) s).testBit i = true → s.testBit i = true ∨ ∃ p ∈ ps, p = i ∨ (acc.getD p 0).testBit i = true
 | [], s, h => .inl h
 | p :: ps, s, h => by
  rcases foldl_bit acc i ps _ h with h | ⟨q, h1, h2⟩
  ·simp only [Nat.testBit_or, Bool.or_eq_true, Nat.testBit_two_pow, decide_eq_true_eq] at h
   rcases h with h | h | h
   ·exact .inl h
   ·exact .inr ⟨p, .head _, .inl h⟩
   ·exact .inr ⟨p, .head _, .inr h⟩
  ·exact .inr ⟨q, .tail _ h1, h2⟩
theorem befores_pre : ∀ (l : List Oper) (acc : List Nat) (p : Nat), p < acc.length → (befores l acc).getD p 0 = acc.getD p 0
 | [], _, _, _ => rfl
 | o :: l, acc, p, h => by
  simp only [befores]
  rw [befores_pre l _ p (by simp; omega)]
  simp [List.getD, List.getElem?_append_left h]
theorem befores_spec : ∀ (l : List Oper) (acc : List Nat) (j : Nat) (o : Oper) (i : Nat), l[j]? = some o → ((befores l acc).getD (acc.length + j) 0).testBit i = true →
  ∃ p ∈ preds o, p = i ∨ ((befores l acc).getD p 0).testBit i = true
 | [], _, _, _, _, h, _ => by simp at h
 | o' :: l, acc, 0, o, i, h, hb => by
  simp at h; subst h
  simp only [befores] at hb ⊢
  rw [Nat.add_zero, befores_pre _ _ _ (by simp)] at hb
  simp only [List.getD, List.getElem?_append_right (Nat.le_refl _), Nat.sub_self, List.getElem?_cons_zero, Option.getD_some] at hb
  rcases foldl_bit _ _ _ _ hb with h | ⟨p, h1, h2⟩
  ·simp at h
  ·refine ⟨p, h1, h2.imp id fun h2 => ?_⟩
   by_cases hp : p < acc.length
   ·rw [befores_pre _ _ _ (by simp; omega)]
    simp only [List.getD, List.getElem?_append_left hp]
    exact h2
   ·exfalso
    simp [List.getD, List.getElem?_eq_none (Nat.le_of_not_lt hp)] at h2
 | o' :: l, acc, j + 1, o, i, h, hb => by
  simp only [befores] at hb ⊢
  exact befores_spec l _ j o i (by simpa using h) (by simpa [Nat.add_assoc, Nat.add_comm 1] using hb)
theorem calm_spec {fps : List FP} (h : calm ops fps = true) : (∀ j o, ops[j]? = some o → ∀ p ∈ preds o, p < j) ∧
  ∀ i j oi oj fi fj, i < j → ops[i]? = some oi → ops[j]? = some oj → fps[i]? = some fi → fps[j]? = some fj → ((befores ops.toList []).getD j 0).testBit i = true ∨ apartFP oi oj fi fj = true := by
 simp only [calm, List.all_eq_true, List.mem_range, Bool.and_eq_true, decide_eq_true_eq, Bool.or_eq_true] at h
 have gd : ∀ {j : Nat} {o : Oper}, ops[j]? = some o → ops.getD j default = o := fun h => by simp [Array.getD_eq_getD_getElem?, h]
 refine ⟨fun j o ho p hp => ?_, fun i j oi oj fi fj hij h1 h2 h3 h4 => ?_⟩
 ·have hj := (Array.getElem?_eq_some_iff.1 ho).1
  have := (h j hj).1
  rw [gd ho] at this
  exact this p hp
 ·have hj := (Array.getElem?_eq_some_iff.1 h2).1
  have := (h j hj).2 i hij
  rw [gd h1, gd h2] at this
  simpa [List.getD, h3, h4] using this
theorem preds_mem {o : Oper} {e : Edge} (h : e ∈ o.after) (hb : Region.binds .any e = true) : e.on ∈ preds o := by
 simp only [preds, List.mem_filterMap, Array.mem_toList_iff]
 exact ⟨e, h, by rw [if_pos hb]⟩
theorem preds_of {o : Oper} {p : Nat} (h : p ∈ preds o) : ∃ e ∈ o.after, Region.binds .any e = true ∧ e.on = p := by
 simp only [preds, List.mem_filterMap, Array.mem_toList_iff] at h
 obtain ⟨e, h1, h2⟩ := h
 split at h2
 ·rename_i hb; exact ⟨e, h1, hb, by simpa using h2⟩
 ·cases h2
theorem inL_mem {x : Nat} {l : List Nat} (h : inL x l = false) : x ∉ l := fun hm => by rw [inL_iff.2 hm] at h; cases h
structure Apart (x y : Oper) (fx fy : FP) : Prop where
 a1 : ∀ d, x.dst = some d → d ∉ fy.rs ∧ y.dst ≠ some d
 a2 : ∀ d, y.dst = some d → d ∉ fx.rs
 a3 : ∀ r ∈ fx.rw, r ∉ fy.rr
 a4 : ∀ r ∈ fx.rw, r ∉ fy.rw
 a5 : ∀ r ∈ fx.rr, r ∉ fy.rw
theorem apart_spec {x y : Oper} {fx fy : FP} (h : apartFP x y fx fy = true) : Apart x y fx fy := by
 simp only [apartFP, Bool.and_eq_true] at h
 obtain ⟨⟨⟨⟨h1, h2⟩, h3⟩, h4⟩, h5⟩ := h
 refine ⟨fun d hd => ?_, fun d hd => ?_, disjB_spec h3, disjB_spec h4, disjB_spec h5⟩
 ·rw [hd] at h1
  simp only [Bool.and_eq_true, Bool.not_eq_true', bne_iff_ne, ne_eq] at h1
  exact ⟨inL_mem h1.1, h1.2⟩
 ·rw [hd] at h2
  simp only [Bool.not_eq_true'] at h2
  exact inL_mem h2
theorem todo_set : ∀ (l : List Bool) (i : Nat), l[i]? = some false → (l.set i true).countP (fun b => !b) + 1 = l.countP (fun b => !b)
 | [], _, h => by simp at h
 | b :: l, 0, h => by simp at h; subst h; simp
 | b :: l, i + 1, h => by
  have := todo_set l i (by simpa using h)
  simp only [List.set_cons_succ, List.countP_cons]
  omega
end
section
variable {n : Nat} {N PO : Nat → Prop} {w0 : Base}
variable {P : Program} {C : FuncId → List PA → CRes → Prop} {sm : FuncId → Nat → Bool} {ops : Array Oper}
theorem getD_true {l : Array Bool} {i : Nat} (h : i < l.size) : l.getD i true = l.getD i false := by simp [Array.getD_eq_getD_getElem?, h]
theorem any_sound (hC : ∀ f as r, C f as r → SemCtr P f as r) (hok : RegOK n ops) {T : List (Oper × Eff)} {fps : List FP} {σ0 : St} (hlen : T.length = ops.size) (hcalm : calm ops fps = true)
  (hT : ∀ i o, ops[i]? = some o → ∃ e fp, T[i]? = some (o, e) ∧ fps[i]? = some fp ∧ Op1 sm C P ops o (fold 0 T (fun k => decide (k < i)) σ0) e fp)
  {Q : Exit → Act → World → Prop} (hQ : ∀ a w, Inv n N PO w0 (fold 0 T (fun _ => true) σ0) a w → Q .normal a w) :
  ∀ (fuel : Nat) (listed : Array Bool) (a : Act) (w : World), listed.size = ops.size → listed.toList.countP (fun b => !b) ≤ fuel →
   (∀ p, listed.getD p false = true → ∀ j, ((befores ops.toList []).getD p 0).testBit j = true → listed.getD j false = true) →
   Inv n N PO w0 (fold 0 T (fun k => listed.getD k false) σ0) a w → wpAny P .any ops Q fuel listed a w := by
 obtain ⟨hlt, hap⟩ := calm_spec hcalm
 have full : ∀ {listed : Array Bool} {a : Act} {w : World}, listed.size = ops.size → Region.ready .any ops listed = [] → Inv n N PO w0 (fold 0 T (fun k => listed.getD k false) σ0) a w → Q .normal a w := by
  intro listed a w hs hr hI
  have all : ∀ i, i < ops.size → listed.getD i true = true := by
   intro i
   induction i using Nat.strongRecOn with
   | _ i ih =>
    intro hi
    cases hl : listed.getD i true with
    | true => rfl
    | false =>
     exfalso
     have ho := Array.getElem?_eq_getElem hi
     have : i ∈ Region.ready .any ops listed := by
      rw [mem_ready]
      refine ⟨hl, _, ho, fun e he hb => ?_⟩
      have hlt' := hlt i _ ho _ (preds_mem he hb)
      have := ih e.on hlt' (by omega)
      rwa [getD_true (by omega)] at this
     rw [hr] at this
     cases this
  refine hQ a w ?_
  rwa [fold_congr (S' := fun k => listed.getD k false) fun j _ hj => by
   have hj : j < ops.size := by omega
   have := all j hj
   rw [getD_true (by omega)] at this
   exact this.symm]
 intro fuel
 induction fuel with
 | zero =>
  intro listed a w hs hf hcl hI
  have hall : ∀ b ∈ listed.toList, b = true := by
   have h0 := Nat.le_zero.1 hf
   rw [List.countP_eq_zero] at h0
   intro b hb
   have := h0 b hb
   simpa using this
  have hr : Region.ready .any ops listed = [] := by
   refine List.eq_nil_iff_forall_not_mem.2 fun i hi => ?_
   obtain ⟨h1, o, ho, _⟩ := mem_ready.1 hi
   have hil := (Array.getElem?_eq_some_iff.1 ho).1
   have hil : i < listed.size := by omega
   have hb := hall listed[i] (by rw [Array.mem_toList_iff]; exact Array.getElem_mem hil)
   simp [hil, hb] at h1
  exact ⟨hr, full hs hr hI⟩
 | succ fuel ih =>
  intro listed a w hs hf hcl hI
  refine ⟨fun hr => full hs hr hI, fun i hi => ?_⟩
  obtain ⟨hun, o, ho, hall⟩ := mem_ready.1 hi
  have hil : i < listed.size := by have := (Array.getElem?_eq_some_iff.1 ho).1; omega
  have hSi : listed.getD i false = false := by rw [← getD_true hil]; exact hun
  obtain ⟨e, fp, hTi, hfi, hop⟩ := hT i o ho
  -- who stands before
  have hb : ∀ j, ((befores ops.toList []).getD i 0).testBit j = true → listed.getD j false = true := by
   intro j hj
   obtain ⟨p, hp, h⟩ := befores_spec ops.toList [] i o j (by simpa using ho) (by simpa using hj)
   obtain ⟨ed, he, hbi, rfl⟩ := preds_of hp
   have hl := hall ed he hbi
   rcases h with rfl | h
   ·exact hl
   ·exact hcl _ hl j h
  have before : ∀ j oj fj, j < i → listed.getD j false = false → ops[j]? = some oj → fps[j]? = some fj → Apart oj o fj fp := by
   intro j oj fj hj hl hoj hfj
   rcases hap j i oj o fj fp hj hoj ho hfj hfi with h | h
   ·rw [hb j h] at hl; cases hl
   ·exact apart_spec h
  have after : ∀ j oj fj, i < j → listed.getD j false = true → ops[j]? = some oj → fps[j]? = some fj → Apart o oj fp fj := by
   intro j oj fj hj hl hoj hfj
   rcases hap i j o oj fp fj hj ho hoj hfi hfj with h | h
   ·rw [hcl j hl i h] at hSi; cases hSi
   ·exact apart_spec h
  have at_ : ∀ j, j < T.length → ∃ oj ej fj, T[j]? = some (oj, ej) ∧ ops[j]? = some oj ∧ fps[j]? = some fj ∧ fj.rw = ej.rows.map (·.1) := by
   intro j hj
   have hj' : j < ops.size := by omega
   obtain ⟨ej, fj, h1, h2, h3⟩ := hT j _ (Array.getElem?_eq_getElem hj')
   exact ⟨_, ej, fj, h1, Array.getElem?_eq_getElem hj', h2, h3.1⟩
  have hrw := hop.1
  have hop2 := op1_local (σ' := fold 0 T (fun k => listed.getD k false) σ0) hop
   (fun t ht => fold_same (looks_slot T t) (fun j _ hj hne => by
    obtain ⟨oj, ej, fj, h1, h2, h3, h4⟩ := at_ j (by omega)
    simp only [slotW, h1, beq_eq_false_iff_ne, ne_eq]
    intro hd
    by_cases hji : j < i
    ·simp only [hji, decide_true, ne_eq] at hne
     exact ((before j oj fj hji (by simpa using hne) h2 h3).a1 t hd).1 ht
    ·simp only [hji, decide_false, ne_eq] at hne
     have hne : listed.getD j false = true := by cases hq : listed.getD j false <;> simp_all
     have : j ≠ i := fun e => by rw [e, hSi] at hne; cases hne
     exact (after j oj fj (by omega) hne h2 h3).a2 t hd ht) rfl)
   (fun r hr => fold_same (looks_row T r) (fun j _ hj hne => by
    obtain ⟨oj, ej, fj, h1, h2, h3, h4⟩ := at_ j (by omega)
    simp only [rowW, h1]
    rw [← h4]
    cases hc : fj.rw.contains r with
    | false => rfl
    | true =>
     exfalso
     have hm : r ∈ fj.rw := by simpa using hc
     by_cases hji : j < i
     ·simp only [hji, decide_true, ne_eq] at hne
      exact (before j oj fj hji (by simpa using hne) h2 h3).a3 r hm hr
     ·simp only [hji, decide_false, ne_eq] at hne
      have hne : listed.getD j false = true := by cases hq : listed.getD j false <;> simp_all
      have : j ≠ i := fun e => by rw [e, hSi] at hne; cases hne
      exact (after j oj fj (by omega) hne h2 h3).a5 r hr hm) rfl)
  obtain ⟨hd1, hd2⟩ := hok i o ho
  have hS' : ∀ j, (listed.setIfInBounds i true).getD j false = if j = i then true else listed.getD j false := by
   intro j
   by_cases e : i = j
   ·subst e; simp [hil]
   ·rw [if_neg (fun h => e h.symm)]; exact getD_set_ne false e
  have := op_sound hC hI hd1 hd2 (op1_to hop2) (Q := Q) (next := wpAny P .any ops Q fuel (listed.setIfInBounds i true)) fun σ' _ a' w' hσ hi' => by
   subst hσ
   refine ih _ a' w' (by simpa using hs) ?_ ?_ ?_
   ·have := todo_set listed.toList i (by
     have : listed[i]? = some false := by
      rw [Array.getElem?_eq_getElem hil]
      simp only [Array.getD_eq_getD_getElem?, Array.getElem?_eq_getElem hil, Option.getD_some] at hSi
      rw [hSi]
     simpa using this)
    rw [Array.toList_setIfInBounds]
    omega
   ·intro p hp j hj
    rw [hS'] at hp ⊢
    split
    ·rfl
    ·split at hp
     ·rename_i _ e; subst e; exact hb j hj
     ·exact hcl p hp j hj
   ·obtain ⟨hI1, hI2, Φ, hc⟩ := hi'
    refine ⟨hI1, hI2, Φ, ?_⟩
    refine Core.ext hc (fun t => ?_) (fun r => ?_)
    ·show (fold 0 T _ σ0).slot t = St.slot (St.app _ o.dst e) t
     rw [app_slot]
     by_cases hdt : o.dst = some t
     ·rw [if_pos hdt, fold_last (looks_slot T t) (k := i) (Nat.zero_le _) (by omega) (by rw [hS', if_pos rfl]) (by simp [slotW, hTi, hdt]) (fun j h1 h2 h3 => by
       obtain ⟨oj, ej, fj, g1, g2, g3, g4⟩ := at_ j (by omega)
       rw [hS', if_neg (by omega)] at h3
       simp only [slotW, g1, beq_eq_false_iff_ne, ne_eq]
       exact ((after j oj fj h1 h3 g2 g3).a1 t hdt).2)]
      simp [slotC, hTi]
     ·rw [if_neg hdt]
      refine fold_same (looks_slot T t) (fun j _ hj hne => ?_) rfl
      have : j = i := by
       refine Classical.byContradiction fun hji => hne ?_
       rw [hS', if_neg hji]
      subst this
      simpa [slotW, hTi] using hdt
    ·show lget (fold 0 T _ σ0).rows r = lget (putRows (fold 0 T _ σ0).rows e.rows) r
     by_cases hk : r ∈ e.rows.map (·.1)
     ·rw [fold_last (f := fun σ => lget σ.rows r) (looks_row T r) (k := i) (Nat.zero_le _) (by omega) (by rw [hS', if_pos rfl]) (by simp only [rowW, hTi]; simpa using hk) (fun j h1 h2 h3 => by
       obtain ⟨oj, ej, fj, g1, g2, g3, g4⟩ := at_ j (by omega)
       rw [hS', if_neg (by omega)] at h3
       simp only [rowW, g1]
       rw [← g4]
       cases hcn : fj.rw.contains r with
       | false => rfl
       | true => exact absurd (by simpa using hcn) ((after j oj fj h1 h3 g2 g3).a4 r (by rw [hrw]; exact hk)))]
      simp only [rowC, hTi]
      exact putRows_has hk
     ·rw [putRows_not hk]
      refine fold_same (f := fun σ => lget σ.rows r) (looks_row T r) (fun j _ hj hne => ?_) rfl
      have : j = i := by
       refine Classical.byContradiction fun hji => hne ?_
       rw [hS', if_neg hji]
      subst this
      simp only [rowW, hTi]
      cases hcn : (e.rows.map (·.1)).contains r with
      | false => rfl
      | true => exact absurd (by simpa using hcn) hk
  unfold wpOp
  rw [ho]
  simp only
  split
  ·rename_i hw; rw [if_pos hw] at this; exact .inl this
  ·rename_i hw; rw [if_neg hw] at this; exact this
theorem Core.world {w w' : World} {σ : St} {ce : Nat → Value} {Φ : Nat → Loc} (h : Core N PO w0 σ ce w Φ) (h1 : w'.heap = w.heap) (h2 : w'.os = w.os) (h3 : w'.tape = w.tape) (h4 : w'.output = w.output) : Core N PO w0 σ ce w' Φ := by
 have hd : ∀ {A : Nat → Prop} (b : Nat), ¬ A b → b < w.heap.size → w'.heap[b]? = w.heap[b]? ∧ ¬ A b := fun b hb _ => ⟨by rw [h1], hb⟩
 have hsz : w.heap.size ≤ w'.heap.size := by rw [h1]; exact Nat.le_refl _
 have hH : ∀ x v, Hd σ.rows Φ w x v → Hd σ.rows Φ w' x v := by
  intro x v hx
  cases x with
  | hs p o n =>
   obtain ⟨a, cap, e, hc, hz, row, h0, hg, hh⟩ := hx
   exact ⟨a, cap, e, hc, hz, row, h0, hg, by rw [h1]; exact hh⟩
  | hp p i j => exact hx
  | hm p => exact hx
  | _ => exact hx
 refine ⟨h2.trans h.os, h3.trans h.tape, h4.trans h.output, by rw [h1]; exact h.size, fun b hb hp => by rw [h1]; exact h.old b hb hp, h.nlt, fun b c e hb => by rw [h1]; exact h.grows b c e hb, h.gen0, fun t => Rep.mono hd hsz hH (h.env t), ?_, h.inj, h.mine⟩
 intro r row h0
 have hr := h.rows r row h0
 unfold RowRel at *
 split at hr
 ·split
  ·rename_i e; rw [e] at hr; exact hr
  ·rename_i b ob e
   rw [e] at hr
   obtain ⟨g1, g2, g3, g4⟩ := hr
   refine ⟨RepRow.mono hd hsz ?_ (by rw [h1]) g1, by rw [h1]; exact g2, g3, by rw [h1]; exact g4⟩
   intro x v hx
   split at hx
   ·rename_i hb; rw [if_pos hb]; exact hH x v hx
   ·exact hx.elim
 ·obtain ⟨b, es, clk, g1, g2, g3, g4, g5⟩ := hr
  exact ⟨b, es, clk, g1, by rw [h1]; exact g2, g3, g4, EntsRel.mono hd hsz g5⟩
end
end Go.AL
end
section
namespace Go.AL
def exOf : Ex → Exit
 | .normal => .normal
 | .exit id => .exit id
 | .ret => .ret
section
variable {n : Nat} {N PO : Nat → Prop} {w0 : Base}
variable {P : Program} {C : FuncId → List PA → CRes → Prop} {sm : FuncId → Nat → Bool}
theorem code_sound (hC : ∀ f as r, C f as r → SemCtr P f as r) (hm : P.follows .mixedOrders = true) (c : Code) : ∀ {σ : St} {a : Act} {w : World} {Q : Post} {Q' : Exit → Act → World → Prop}, dstOK n c = true → Inv n N PO w0 σ a w → awp sm C P c σ Q →
  (∀ e σ a w, Q e σ → Inv n N PO w0 σ a w → Q' (exOf e) a w) → c.wp P Q' a w := by
 induction c with
 | skip => exact fun _ hI h hQ => wp_skip (hQ .normal _ _ _ h hI)
 | region id ops d =>
  intro σ a w Q Q' hd hI h hQ
  have hok := regOK hd
  cases d with
  | false =>
   refine wp_region ?_
   have := ops_sound hC hok (Q := Q') (K := Q .normal) (fun σ a w h hi => hQ .normal σ a w h hi) ops.toList 0 rfl hI h
   rwa [← List.range_eq_range', Array.length_toList] at this
  | true =>
   obtain ⟨es, g1, g2, g3, g4⟩ := trace ops.toList [] σ h
   have hlen : (ops.toList.zip (es.map (·.1))).length = ops.size := by simp [g1]
   refine wp_region_any hm (any_sound (sm := sm) hC hok (T := ops.toList.zip (es.map (·.1))) (fps := es.map (·.2)) (σ0 := σ) hlen (by simpa using g2) ?_ (fun a w hi => hQ .normal _ a w g3 hi) ops.size _ a _ (by simp) ?_ ?_ ?_)
   ·intro i o ho
    obtain ⟨e, fp, k1, k2⟩ := g4 i o (by simpa using ho)
    refine ⟨e, fp, ?_, by simp [k1], k2⟩
    rw [List.getElem?_zip_eq_some]
    exact ⟨by simpa using ho, by simp [k1]⟩
   ·exact Nat.le_trans (List.countP_le_length (p := fun b => !b)) (by simp)
   ·intro p hp
    exfalso
    rw [Array.getD_eq_getD_getElem?, Array.getElem?_replicate] at hp
    split at hp <;> simp at hp
   ·rw [fold_none (fun j => by rw [Array.getD_eq_getD_getElem?, Array.getElem?_replicate]; split <;> rfl)]
    obtain ⟨h1, h2, Φ, hc⟩ := hI
    exact ⟨h1, h2, Φ, hc.world rfl rfl rfl rfl⟩
 | seq x y ihx ihy =>
  intro σ a w Q Q' hd hI h hQ
  simp only [dstOK, Bool.and_eq_true] at hd
  refine wp_seq (ihx hd.1 hI h fun e σ a w h hi => ?_)
  cases e with
  | normal => exact ihy hd.2 hi h hQ
  | exit id => exact hQ (.exit id) _ _ _ h hi
  | ret => exact hQ .ret _ _ _ h hi
 | cond c x y ihx ihy =>
  intro σ a w Q Q' hd hI h hQ
  simp only [dstOK, Bool.and_eq_true] at hd
  simp only [awp] at h
  cases c with
  | tmp t =>
   simp only [condSlot] at h
   unfold condA at h
   split at h
   ·rename_i b hb
    have hv := slot_bool hI hb
    refine wp_cond_split (t := b) (by simp [Act.eval, Array.getD_eq_getD_getElem?, hv]) (fun e => ihx hd.1 hI (h.1 e) hQ) (fun e => ihy hd.2 hI (h.2 e) hQ)
   ·exact h.elim
  | const v =>
   cases v with
   | bool b =>
    simp only [condSlot] at h
    exact wp_cond_split (t := b) (by simp [Act.eval]) (fun e => ihx hd.1 hI (h.1 e) hQ) (fun e => ihy hd.2 hI (h.2 e) hQ)
   | _ => exact h.elim
  | _ => exact h.elim
 | block id c ih =>
  intro σ a w Q Q' hd hI h hQ
  refine wp_block (ih hd hI h fun e σ a w h hi => ?_)
  cases e with
  | normal => exact hQ .normal _ _ _ h hi
  | ret => exact hQ .ret _ _ _ h hi
  | exit i =>
   simp only [exOf, Exit.inBlock]
   dsimp only at h
   split
   ·rename_i e; rw [if_pos e] at h; exact hQ .normal _ _ _ h hi
   ·rename_i e; rw [if_neg e] at h; exact hQ (.exit i) _ _ _ h hi
 | loop c ih =>
  intro σ a w Q Q' hd hI h hQ
  obtain ⟨ss, rs, α, S, μ, x, ke, h0, hr⟩ := h
  have keep1 : ∀ {σ : St} {a : Act} {w : World}, Inv n N PO w0 σ a w → Inv n N PO w0 (keep ss rs σ) a w := fun hi => by
   obtain ⟨h1, h2, Φ, hc⟩ := hi
   exact ⟨h1, h2, Φ, keep_core hc⟩
  refine wp_loop_ghost (fun k a w => ∃ x, μ x = k ∧ Inv n N PO w0 (S x) a w) (μ x) ⟨x, rfl, by rw [h0]; exact keep1 hI⟩ ?_
  rintro k a w ⟨x, rfl, hi⟩
  refine ih hd hi (hr x) fun e σ a w h hi => ?_
  cases e with
  | normal =>
   obtain ⟨y, h1, h2⟩ := h
   exact ⟨μ y, h2, y, rfl, by rw [h1]; exact keep1 hi⟩
  | exit id =>
   refine hQ (.exit id) _ _ _ h ?_
   cases ke with
   | none => exact hi
   | some k =>
    obtain ⟨h1, h2, Φ, hc⟩ := hi
    exact ⟨h1, h2, Φ, keep_core hc⟩
  | ret => exact hQ .ret _ _ _ h hi
 | exit id => exact fun _ hI h hQ => wp_exit (hQ (.exit id) _ _ _ h hI)
 | ret => exact fun _ hI h hQ => wp_ret (hQ .ret _ _ _ h hI)
 | _ => exact fun _ _ h _ => h.elim
theorem body_sound (hm : P.follows .mixedOrders = true) (hC : ∀ f as r, C f as r → SemCtr P f as r) {f : FuncId} {as : List PA} {r : CRes} (h : BodyOK sm C P f as r) : SemCtr P f as r := by
 obtain ⟨fn, c, h0, h1, h2, h3, h3', h4, h5⟩ := h
 refine ⟨h0, h3', fun N PO w1 args hc hr0 => ?_⟩
 refine calls_of_wp h1 h2 ?_
 have hI : Inv fn.ntmps N PO w1 (entry as) { tmps := args ++ Array.replicate (fn.ntmps - args.size) undef, defers := [] } w1.toWorld := by
  refine ⟨rfl, by simp; omega, w1.loc, ?_⟩
  have e : Act.val { tmps := args ++ Array.replicate (fn.ntmps - args.size) undef, defers := [] } = fun t => args.getD t undef := by
   funext t
   simp only [Act.val, Array.getD_eq_getD_getElem?, Array.getElem?_append, Array.getElem?_replicate]
   split
   ·rfl
   ·rename_i ht
    rw [Array.getElem?_eq_none (by omega)]
    split <;> rfl
  rw [e]
  exact hc
 refine code_sound (sm := sm) hC hm c h4 hI (Q := bodyPostA C P fn as r) ?_ ?_
 ·have := h5
  simp only [run] at this
  exact this
 ·intro e σ a w hq hi
  obtain ⟨hd, _, Φ, hcx⟩ := hi
  cases e with
  | exit id => exact hq.elim
  | normal =>
   obtain ⟨v, k1, k2⟩ := exit_sound hcx hr0 h3' hq
   exact ⟨hd, v, k1, v, rfl, k2⟩
  | ret =>
   obtain ⟨v, k1, k2⟩ := exit_sound hcx hr0 h3' hq
   exact ⟨hd, v, k1, v, rfl, k2⟩
end
theorem Ctr.sound {sm : FuncId → Nat → Bool} {X : FuncId → List PA → CRes → Prop} {P : Program} (hm : P.follows .mixedOrders = true) (hX : ∀ f as r, X f as r → SemCtr P f as r) {f : FuncId} {as : List PA} {r : CRes} (h : Ctr sm X P f as r) : SemCtr P f as r :=
 h (SemCtr P) hX fun _ _ _ hb => body_sound hm (fun _ _ _ h => h) hb
end Go.AL
end
section
namespace Go.AL
theorem RM.bind_assoc {α β γ : Type} (m : RM α) (f : α → RM β) (g : β → RM γ) : (m.bind f).bind g = m.bind fun x => (f x).bind g := by
 induction m with
 | ret a => rfl
 | slot t k ih => simp only [RM.bind]; congr 1; funext v; exact ih v
 | row r k ih => simp only [RM.bind]; congr 1; funext v; exact ih v
 | req p k ih => simp only [RM.bind]; congr 1
 | any k ih => simp only [RM.bind]; congr 1; funext v; exact ih v
 | call f as k ih => simp only [RM.bind]; congr 1; funext v; exact ih v
 | fail => rfl
class HoldV where f : AV → Prop
class HoldR where f : Option Row → Prop
def slotK (v : AV) [F : HoldV] : Prop := F.f v
def rowK (o : Option Row) [F : HoldR] : Prop := F.f o
theorem slotK_eq (v : AV) [F : HoldV] : slotK v = F.f v := rfl
theorem rowK_eq (o : Option Row) [F : HoldR] : rowK o = F.f o := rfl
variable {sm : FuncId → Nat → Bool} {C : FuncId → List PA → CRes → Prop} {P : Program} {k : List It} {σ : St} {Q : Post} {d : Option Nat} {all : Array Oper} {l : List Oper} {rs rr : List Nat} {fps : List FP}
theorem pK_opd_tmp {t : Nat} {f : AV → RM Eff} : opK sm C P ((opd (.tmp t)).bind f) d all l k σ Q = slotK (σ.slot t) (F := ⟨fun v => opK sm C P (f v) d all l k σ Q⟩) := opK_slot
theorem pK_opd_const {v : Value} {f : AV → RM Eff} : opK sm C P ((opd (.const v)).bind f) d all l k σ Q = slotK (ofValue v) (F := ⟨fun v => opK sm C P (f v) d all l k σ Q⟩) := rfl
theorem pK_opd_func {h : FuncId} {f : AV → RM Eff} : opK sm C P ((opd (.func h)).bind f) d all l k σ Q = opK sm C P (f (.sc (.func (.func h) #[] #[]))) d all l k σ Q := rfl
theorem pK_bind_ret {α : Type} {a : α} {f : α → RM Eff} : opK sm C P ((RM.ret a).bind f) d all l k σ Q = opK sm C P (f a) d all l k σ Q := rfl
theorem pK_bind_req {α : Type} {p : Prop} {m : RM α} {f : α → RM Eff} : opK sm C P ((RM.req p m).bind f) d all l k σ Q = (VC p ∧ opK sm C P (m.bind f) d all l k σ Q) := rfl
theorem pK_bind_fail {α : Type} {f : α → RM Eff} : opK sm C P ((RM.fail).bind f) d all l k σ Q = False := rfl
theorem pK_bind_bind {α β : Type} {m : RM α} {f : α → RM β} {h : β → RM Eff} : opK sm C P ((m.bind f).bind h) d all l k σ Q = opK sm C P (m.bind fun x => (f x).bind h) d all l k σ Q := by rw [RM.bind_assoc]
theorem pK_bind_ite {α : Type} {c : Prop} [Decidable c] {m m2 : RM α} {f : α → RM Eff} : opK sm C P ((if c then m else m2).bind f) d all l k σ Q = opK sm C P (if c then m.bind f else m2.bind f) d all l k σ Q := by split <;> rfl
theorem pK_rd {p : Pl} {f : Row → RM Eff} : opK sm C P (rd p f) d all l k σ Q = rowK (lget σ.rows p.r) (F := ⟨fun o => match o with | none => False | some w => if w.gen = p.g then opK sm C P (f w) d all l k σ Q else False⟩) := by unfold rd rowK; rw [opK_row]; cases lget σ.rows p.r with | none => rfl | some w => (simp only []; split <;> rfl)
theorem pK_rd_bind {α : Type} {p : Pl} {f : Row → RM α} {h : α → RM Eff} : opK sm C P ((rd p f).bind h) d all l k σ Q = opK sm C P (rd p fun w => (f w).bind h) d all l k σ Q := by unfold rd; rw [RM.bind]; congr 1; congr 1; funext o; cases o with | none => rfl | some w => (simp only []; split <;> rfl)
theorem pK_mk {key : Nat} {box : Bool} {b : Body} {f : Pl → Nat × Row → RM Eff} : opK sm C P (mk key box b f) d all l k σ Q = rowK (lget σ.rows key) (F := ⟨fun old => opK sm C P (f ⟨key, freshGen old⟩ (key, ⟨freshGen old, true, box, b⟩)) d all l k σ Q⟩) := opK_row
theorem pK_mk_bind {α : Type} {key : Nat} {box : Bool} {b : Body} {f : Pl → Nat × Row → RM α} {h : α → RM Eff} : opK sm C P ((mk key box b f).bind h) d all l k σ Q = opK sm C P (mk key box b fun p w => (f p w).bind h) d all l k σ Q := rfl
theorem pK_move {d' : Option Nat} {ty : Nat} {ps : String} {af : Array Edge} {g : Option (Nat × Bool)} {x : Operand} : opK sm C P (astep sm P ⟨d', .move x, ty, ps, af, g⟩) d all l k σ Q = opK sm C P ((opd x).bind fun z => .ret { val := z }) d all l k σ Q := rfl
theorem pK_assign {d' : Option Nat} {ty : Nat} {ps : String} {af : Array Edge} {g : Option (Nat × Bool)} {t : Nat} : opK sm C P (astep sm P ⟨d', .assign (.tmp t), ty, ps, af, g⟩) d all l k σ Q = opK sm C P ((opd (.tmp t)).bind fun z => .ret { val := z }) d all l k σ Q := rfl
theorem pK_assignc {d' : Option Nat} {ty : Nat} {ps : String} {af : Array Edge} {g : Option (Nat × Bool)} {v : Value} : opK sm C P (astep sm P ⟨d', .assign (.const v), ty, ps, af, g⟩) d all l k σ Q = opK sm C P (assignA P (d'.getD 0) ty (.const v)) d all l k σ Q := rfl
theorem pK_assignf {d' : Option Nat} {ty : Nat} {ps : String} {af : Array Edge} {g : Option (Nat × Bool)} {h : FuncId} : opK sm C P (astep sm P ⟨d', .assign (.func h), ty, ps, af, g⟩) d all l k σ Q = opK sm C P ((opd (.func h)).bind fun z => .ret { val := z }) d all l k σ Q := rfl
theorem pK_pick {d' : Option Nat} {ty : Nat} {ps : String} {af : Array Edge} {g : Option (Nat × Bool)} {c a b : Operand} : opK sm C P (astep sm P ⟨d', .pick c a b, ty, ps, af, g⟩) d all l k σ Q = opK sm C P ((opd c).bind fun c => (opd a).bind fun a => (opd b).bind fun b => (pickA c a b).bind fun z => .ret { val := z }) d all l k σ Q := by simp only [astep, val, RM.bind_assoc]
theorem pK_box {d' : Option Nat} {ty : Nat} {ps : String} {af : Array Edge} {g : Option (Nat × Bool)} {t : TypeId} {x : Operand} : opK sm C P (astep sm P ⟨d', .box t x, ty, ps, af, g⟩) d all l k σ Q = opK sm C P ((opd x).bind fun x => boxA P (d'.getD 0) t x) d all l k σ Q := rfl
theorem pK_alloc {d' : Option Nat} {ty : Nat} {ps : String} {af : Array Edge} {g : Option (Nat × Bool)} {t : TypeId} : opK sm C P (astep sm P ⟨d', .alloc t, ty, ps, af, g⟩) d all l k σ Q = opK sm C P (boxA P (d'.getD 0) t (tyOf P t).zero) d all l k σ Q := rfl
theorem pK_build {d' : Option Nat} {ty : Nat} {ps : String} {af : Array Edge} {g : Option (Nat × Bool)} {t : TypeId} {xs : List (Nat × Operand)} : opK sm C P (astep sm P ⟨d', .build t xs.toArray, ty, ps, af, g⟩) d all l k σ Q = opK sm C P ((opdParts xs).bind fun xs => (buildA P t xs).bind fun z => .ret { val := z }) d all l k σ Q := by simp only [astep, val, RM.bind_assoc]
theorem pK_buildSlice {d' : Option Nat} {ty : Nat} {ps : String} {af : Array Edge} {g : Option (Nat × Bool)} {t : TypeId} {n : Nat} {xs : List (Nat × Operand)} : opK sm C P (astep sm P ⟨d', .buildSlice t n xs.toArray, ty, ps, af, g⟩) d all l k σ Q = opK sm C P ((opdParts xs).bind fun xs => buildSliceA P (d'.getD 0) t n xs) d all l k σ Q := rfl
theorem pK_parts_nil {f : List (Nat × AV) → RM Eff} : opK sm C P ((opdParts []).bind f) d all l k σ Q = opK sm C P (f []) d all l k σ Q := rfl
theorem pK_parts_cons {i : Nat} {o : Operand} {xs : List (Nat × Operand)} {f : List (Nat × AV) → RM Eff} : opK sm C P ((opdParts ((i, o) :: xs)).bind f) d all l k σ Q = opK sm C P ((opd o).bind fun v => (opdParts xs).bind fun r => f ((i, v) :: r)) d all l k σ Q := by simp only [opdParts, RM.bind_assoc, RM.bind]
theorem pK_load {d' : Option Nat} {ty : Nat} {ps : String} {af : Array Edge} {g : Option (Nat × Bool)} {t : TypeId} {x : Operand} : opK sm C P (astep sm P ⟨d', .load t x, ty, ps, af, g⟩) d all l k σ Q = opK sm C P ((opd x).bind fun x => (loadA P t x).bind fun z => .ret { val := z }) d all l k σ Q := by simp only [astep, val, RM.bind_assoc]
theorem pK_store {d' : Option Nat} {ty : Nat} {ps : String} {af : Array Edge} {g : Option (Nat × Bool)} {t : TypeId} {x y : Operand} : opK sm C P (astep sm P ⟨d', .store t x y, ty, ps, af, g⟩) d all l k σ Q = opK sm C P ((opd x).bind fun x => (opd y).bind fun y => storeA P t x y) d all l k σ Q := rfl
theorem pK_nilCheck {d' : Option Nat} {ty : Nat} {ps : String} {af : Array Edge} {g : Option (Nat × Bool)} {x : Operand} : opK sm C P (astep sm P ⟨d', .nilCheck x, ty, ps, af, g⟩) d all l k σ Q = opK sm C P ((opd x).bind fun x => (nilCheckA x).bind fun z => .ret { val := z }) d all l k σ Q := by simp only [astep, val, RM.bind_assoc]
theorem pK_binOp {d' : Option Nat} {ty : Nat} {ps : String} {af : Array Edge} {g : Option (Nat × Bool)} {b : BinOp} {t u : TypeId} {x y : Operand} : opK sm C P (astep sm P ⟨d', .binOp b t x y u, ty, ps, af, g⟩) d all l k σ Q = opK sm C P ((opd x).bind fun x => (opd y).bind fun z => (binOpA P b t x z y).bind fun z => .ret { val := z }) d all l k σ Q := by simp only [astep, val, RM.bind_assoc]
theorem pK_unOp {d' : Option Nat} {ty : Nat} {ps : String} {af : Array Edge} {g : Option (Nat × Bool)} {b : UnOp} {t : TypeId} {x : Operand} : opK sm C P (astep sm P ⟨d', .unOp b t x, ty, ps, af, g⟩) d all l k σ Q = opK sm C P ((opd x).bind fun x => (unOpA b x).bind fun z => .ret { val := z }) d all l k σ Q := by simp only [astep, val, RM.bind_assoc]
theorem pK_convert {d' : Option Nat} {ty : Nat} {ps : String} {af : Array Edge} {g : Option (Nat × Bool)} {s t : TypeId} {x : Operand} : opK sm C P (astep sm P ⟨d', .convert s t x, ty, ps, af, g⟩) d all l k σ Q = opK sm C P ((opd x).bind fun x => convA P (d'.getD 0) s t x) d all l k σ Q := rfl
theorem pK_makeMap {d' : Option Nat} {ty : Nat} {ps : String} {af : Array Edge} {g : Option (Nat × Bool)} {t : TypeId} : opK sm C P (astep sm P ⟨d', .makeMap t none, ty, ps, af, g⟩) d all l k σ Q = opK sm C P (makeMapA P (d'.getD 0) t) d all l k σ Q := rfl
theorem pK_makeSlice {d' : Option Nat} {ty : Nat} {ps : String} {af : Array Edge} {g : Option (Nat × Bool)} {t : TypeId} {x y : Operand} : opK sm C P (astep sm P ⟨d', .makeSlice t x y, ty, ps, af, g⟩) d all l k σ Q = opK sm C P ((opd x).bind fun x => (opd y).bind fun y => (natOf x).bind fun x => (natOf y).bind fun y => makeSliceA P (d'.getD 0) t x y) d all l k σ Q := rfl
theorem pK_slice {d' : Option Nat} {ty : Nat} {ps : String} {af : Array Edge} {g : Option (Nat × Bool)} {t : TypeId} {x : Operand} {a b c : Option Operand} : opK sm C P (astep sm P ⟨d', .slice t x a b c, ty, ps, af, g⟩) d all l k σ Q = opK sm C P ((opd x).bind fun x => (optNat a).bind fun a => (optNat b).bind fun b => (optNat c).bind fun c => sliceA P t x a b c) d all l k σ Q := rfl
theorem pK_optNat_none {f : Option Int → RM Eff} : opK sm C P ((optNat none).bind f) d all l k σ Q = opK sm C P (f none) d all l k σ Q := rfl
theorem pK_optNat_some {o : Operand} {f : Option Int → RM Eff} : opK sm C P ((optNat (some o)).bind f) d all l k σ Q = opK sm C P ((opd o).bind fun v => (natOf v).bind fun n => f (some n)) d all l k σ Q := by simp only [optNat, RM.bind_assoc, RM.bind]
theorem pK_fieldAddr {d' : Option Nat} {ty : Nat} {ps : String} {af : Array Edge} {g : Option (Nat × Bool)} {t : TypeId} {x : Operand} {n : Nat} : opK sm C P (astep sm P ⟨d', .fieldAddr t x n, ty, ps, af, g⟩) d all l k σ Q = opK sm C P ((opd x).bind fun x => (fieldAddrA P t x n).bind fun z => .ret { val := z }) d all l k σ Q := by simp only [astep, val, RM.bind_assoc]
theorem pK_field {d' : Option Nat} {ty : Nat} {ps : String} {af : Array Edge} {g : Option (Nat × Bool)} {t : TypeId} {x : Operand} {n : Nat} : opK sm C P (astep sm P ⟨d', .field t x n, ty, ps, af, g⟩) d all l k σ Q = opK sm C P ((opd x).bind fun x => (fieldA P t x n).bind fun z => .ret { val := z }) d all l k σ Q := by simp only [astep, val, RM.bind_assoc]
theorem pK_indexAddr {d' : Option Nat} {ty : Nat} {ps : String} {af : Array Edge} {g : Option (Nat × Bool)} {t : TypeId} {x i : Operand} : opK sm C P (astep sm P ⟨d', .indexAddr t x i, ty, ps, af, g⟩) d all l k σ Q = opK sm C P ((opd x).bind fun x => (opd i).bind fun i => (natOf i).bind fun i => (indexAddrA P t x i).bind fun z => .ret { val := z }) d all l k σ Q := by simp only [astep, val, RM.bind_assoc]
theorem pK_index {d' : Option Nat} {ty : Nat} {ps : String} {af : Array Edge} {g : Option (Nat × Bool)} {t : TypeId} {x i : Operand} : opK sm C P (astep sm P ⟨d', .index t x i, ty, ps, af, g⟩) d all l k σ Q = opK sm C P ((opd x).bind fun x => (opd i).bind fun i => (natOf i).bind fun i => (indexA P t x i).bind fun z => .ret { val := z }) d all l k σ Q := by simp only [astep, val, RM.bind_assoc]
theorem pK_lookup {d' : Option Nat} {ty : Nat} {ps : String} {af : Array Edge} {g : Option (Nat × Bool)} {t : TypeId} {x i : Operand} {ok : Bool} : opK sm C P (astep sm P ⟨d', .lookup t x i ok, ty, ps, af, g⟩) d all l k σ Q = opK sm C P ((opd x).bind fun x => (opd i).bind fun i => (lookupA P t x i ok).bind fun z => .ret { val := z }) d all l k σ Q := by simp only [astep, val, RM.bind_assoc]
theorem pK_mapUpdate {d' : Option Nat} {ty : Nat} {ps : String} {af : Array Edge} {g : Option (Nat × Bool)} {t : TypeId} {x i y : Operand} : opK sm C P (astep sm P ⟨d', .mapUpdate t x i y, ty, ps, af, g⟩) d all l k σ Q = opK sm C P ((opd x).bind fun x => (opd i).bind fun i => (opd y).bind fun y => mapUpdateA P t x i y) d all l k σ Q := rfl
theorem pK_range {d' : Option Nat} {ty : Nat} {ps : String} {af : Array Edge} {g : Option (Nat × Bool)} {t : TypeId} {x : Operand} : opK sm C P (astep sm P ⟨d', .range t x, ty, ps, af, g⟩) d all l k σ Q = opK sm C P ((opd x).bind fun x => rangeA P t x) d all l k σ Q := rfl
theorem pK_next {d' : Option Nat} {ty : Nat} {ps : String} {af : Array Edge} {g : Option (Nat × Bool)} {x : Operand} : opK sm C P (astep sm P ⟨d', .next x false, ty, ps, af, g⟩) d all l k σ Q = opK sm C P ((opd x).bind fun x => (nextA x).bind fun z => .ret { val := z }) d all l k σ Q := by simp only [astep, val, RM.bind_assoc]
theorem pK_extract {d' : Option Nat} {ty : Nat} {ps : String} {af : Array Edge} {g : Option (Nat × Bool)} {x : Operand} {n : Nat} : opK sm C P (astep sm P ⟨d', .extract x n, ty, ps, af, g⟩) d all l k σ Q = opK sm C P ((opd x).bind fun x => (extractA x n).bind fun z => .ret { val := z }) d all l k σ Q := by simp only [astep, val, RM.bind_assoc]
theorem pK_builtin {d' : Option Nat} {ty : Nat} {ps : String} {af : Array Edge} {g : Option (Nat × Bool)} {b : Builtin} {xs : List Operand} {ts : List TypeId} : opK sm C P (astep sm P ⟨d', .call ⟨.builtin b, xs.toArray, ts.toArray⟩, ty, ps, af, g⟩) d all l k σ Q = opK sm C P ((opds xs).bind fun vs => builtinA P (d'.getD 0) b ts vs) d all l k σ Q := rfl
theorem pK_callf {d' : Option Nat} {ty : Nat} {ps : String} {af : Array Edge} {g : Option (Nat × Bool)} {h : FuncId} {xs : List Operand} {ts : List TypeId} : opK sm C P (astep sm P ⟨d', .call ⟨.value (.func h), xs.toArray, ts.toArray⟩, ty, ps, af, g⟩) d all l k σ Q = opK sm C P ((opds xs).bind fun vs => callA sm P (d'.getD 0) h vs ts) d all l k σ Q := by simp only [astep, callOpA, opd, RM.bind, List.map_nil, List.nil_append, List.append_nil, List.size_toArray, List.length_nil, List.replicate_zero]
theorem pK_opds_nil {f : List AV → RM Eff} : opK sm C P ((opds []).bind f) d all l k σ Q = opK sm C P (f []) d all l k σ Q := rfl
theorem pK_opds_cons {o : Operand} {xs : List Operand} {f : List AV → RM Eff} : opK sm C P ((opds (o :: xs)).bind f) d all l k σ Q = opK sm C P ((opd o).bind fun v => (opds xs).bind fun r => f (v :: r)) d all l k σ Q := by simp only [opds, RM.bind_assoc, RM.bind]
theorem pD_opd_tmp {t : Nat} {f : AV → RM Eff} : opD sm C P ((opd (.tmp t)).bind f) rs rr d all l fps k σ Q = slotK (σ.slot t) (F := ⟨fun v => opD sm C P (f v) (t :: rs) rr d all l fps k σ Q⟩) := rfl
theorem pD_opd_const {v : Value} {f : AV → RM Eff} : opD sm C P ((opd (.const v)).bind f) rs rr d all l fps k σ Q = slotK (ofValue v) (F := ⟨fun v => opD sm C P (f v) rs rr d all l fps k σ Q⟩) := rfl
theorem pD_opd_func {h : FuncId} {f : AV → RM Eff} : opD sm C P ((opd (.func h)).bind f) rs rr d all l fps k σ Q = opD sm C P (f (.sc (.func (.func h) #[] #[]))) rs rr d all l fps k σ Q := rfl
theorem pD_bind_ret {α : Type} {a : α} {f : α → RM Eff} : opD sm C P ((RM.ret a).bind f) rs rr d all l fps k σ Q = opD sm C P (f a) rs rr d all l fps k σ Q := rfl
theorem pD_bind_req {α : Type} {p : Prop} {m : RM α} {f : α → RM Eff} : opD sm C P ((RM.req p m).bind f) rs rr d all l fps k σ Q = (VC p ∧ opD sm C P (m.bind f) rs rr d all l fps k σ Q) := rfl
theorem pD_bind_fail {α : Type} {f : α → RM Eff} : opD sm C P ((RM.fail).bind f) rs rr d all l fps k σ Q = False := rfl
theorem pD_bind_bind {α β : Type} {m : RM α} {f : α → RM β} {h : β → RM Eff} : opD sm C P ((m.bind f).bind h) rs rr d all l fps k σ Q = opD sm C P (m.bind fun x => (f x).bind h) rs rr d all l fps k σ Q := by rw [RM.bind_assoc]
theorem pD_bind_ite {α : Type} {c : Prop} [Decidable c] {m m2 : RM α} {f : α → RM Eff} : opD sm C P ((if c then m else m2).bind f) rs rr d all l fps k σ Q = opD sm C P (if c then m.bind f else m2.bind f) rs rr d all l fps k σ Q := by split <;> rfl
theorem pD_rd {p : Pl} {f : Row → RM Eff} : opD sm C P (rd p f) rs rr d all l fps k σ Q = rowK (lget σ.rows p.r) (F := ⟨fun o => match o with | none => False | some w => if w.gen = p.g then opD sm C P (f w) rs (p.r :: rr) d all l fps k σ Q else False⟩) := by unfold rd rowK; rw [opD_row]; cases lget σ.rows p.r with | none => rfl | some w => (simp only []; split <;> rfl)
theorem pD_rd_bind {α : Type} {p : Pl} {f : Row → RM α} {h : α → RM Eff} : opD sm C P ((rd p f).bind h) rs rr d all l fps k σ Q = opD sm C P (rd p fun w => (f w).bind h) rs rr d all l fps k σ Q := by unfold rd; rw [RM.bind]; congr 1; congr 1; funext o; cases o with | none => rfl | some w => (simp only []; split <;> rfl)
theorem pD_mk {key : Nat} {box : Bool} {b : Body} {f : Pl → Nat × Row → RM Eff} : opD sm C P (mk key box b f) rs rr d all l fps k σ Q = rowK (lget σ.rows key) (F := ⟨fun old => opD sm C P (f ⟨key, freshGen old⟩ (key, ⟨freshGen old, true, box, b⟩)) rs (key :: rr) d all l fps k σ Q⟩) := opD_row
theorem pD_mk_bind {α : Type} {key : Nat} {box : Bool} {b : Body} {f : Pl → Nat × Row → RM α} {h : α → RM Eff} : opD sm C P ((mk key box b f).bind h) rs rr d all l fps k σ Q = opD sm C P (mk key box b fun p w => (f p w).bind h) rs rr d all l fps k σ Q := rfl
theorem pD_move {d' : Option Nat} {ty : Nat} {ps : String} {af : Array Edge} {g : Option (Nat × Bool)} {x : Operand} : opD sm C P (astep sm P ⟨d', .move x, ty, ps, af, g⟩) rs rr d all l fps k σ Q = opD sm C P ((opd x).bind fun z => .ret { val := z }) rs rr d all l fps k σ Q := rfl
theorem pD_assign {d' : Option Nat} {ty : Nat} {ps : String} {af : Array Edge} {g : Option (Nat × Bool)} {t : Nat} : opD sm C P (astep sm P ⟨d', .assign (.tmp t), ty, ps, af, g⟩) rs rr d all l fps k σ Q = opD sm C P ((opd (.tmp t)).bind fun z => .ret { val := z }) rs rr d all l fps k σ Q := rfl
theorem pD_assignc {d' : Option Nat} {ty : Nat} {ps : String} {af : Array Edge} {g : Option (Nat × Bool)} {v : Value} : opD sm C P (astep sm P ⟨d', .assign (.const v), ty, ps, af, g⟩) rs rr d all l fps k σ Q = opD sm C P (assignA P (d'.getD 0) ty (.const v)) rs rr d all l fps k σ Q := rfl
theorem pD_assignf {d' : Option Nat} {ty : Nat} {ps : String} {af : Array Edge} {g : Option (Nat × Bool)} {h : FuncId} : opD sm C P (astep sm P ⟨d', .assign (.func h), ty, ps, af, g⟩) rs rr d all l fps k σ Q = opD sm C P ((opd (.func h)).bind fun z => .ret { val := z }) rs rr d all l fps k σ Q := rfl
theorem pD_pick {d' : Option Nat} {ty : Nat} {ps : String} {af : Array Edge} {g : Option (Nat × Bool)} {c a b : Operand} : opD sm C P (astep sm P ⟨d', .pick c a b, ty, ps, af, g⟩) rs rr d all l fps k σ Q = opD sm C P ((opd c).bind fun c => (opd a).bind fun a => (opd b).bind fun b => (pickA c a b).bind fun z => .ret { val := z }) rs rr d all l fps k σ Q := by simp only [astep, val, RM.bind_assoc]
theorem pD_box {d' : Option Nat} {ty : Nat} {ps : String} {af : Array Edge} {g : Option (Nat × Bool)} {t : TypeId} {x : Operand} : opD sm C P (astep sm P ⟨d', .box t x, ty, ps, af, g⟩) rs rr d all l fps k σ Q = opD sm C P ((opd x).bind fun x => boxA P (d'.getD 0) t x) rs rr d all l fps k σ Q := rfl
theorem pD_alloc {d' : Option Nat} {ty : Nat} {ps : String} {af : Array Edge} {g : Option (Nat × Bool)} {t : TypeId} : opD sm C P (astep sm P ⟨d', .alloc t, ty, ps, af, g⟩) rs rr d all l fps k σ Q = opD sm C P (boxA P (d'.getD 0) t (tyOf P t).zero) rs rr d all l fps k σ Q := rfl
theorem pD_build {d' : Option Nat} {ty : Nat} {ps : String} {af : Array Edge} {g : Option (Nat × Bool)} {t : TypeId} {xs : List (Nat × Operand)} : opD sm C P (astep sm P ⟨d', .build t xs.toArray, ty, ps, af, g⟩) rs rr d all l fps k σ Q = opD sm C P ((opdParts xs).bind fun xs => (buildA P t xs).bind fun z => .ret { val := z }) rs rr d all l fps k σ Q := by simp only [astep, val, RM.bind_assoc]
theorem pD_buildSlice {d' : Option Nat} {ty : Nat} {ps : String} {af : Array Edge} {g : Option (Nat × Bool)} {t : TypeId} {n : Nat} {xs : List (Nat × Operand)} : opD sm C P (astep sm P ⟨d', .buildSlice t n xs.toArray, ty, ps, af, g⟩) rs rr d all l fps k σ Q = opD sm C P ((opdParts xs).bind fun xs => buildSliceA P (d'.getD 0) t n xs) rs rr d all l fps k σ Q := rfl
theorem pD_parts_nil {f : List (Nat × AV) → RM Eff} : opD sm C P ((opdParts []).bind f) rs rr d all l fps k σ Q = opD sm C P (f []) rs rr d all l fps k σ Q := rfl
theorem pD_parts_cons {i : Nat} {o : Operand} {xs : List (Nat × Operand)} {f : List (Nat × AV) → RM Eff} : opD sm C P ((opdParts ((i, o) :: xs)).bind f) rs rr d all l fps k σ Q = opD sm C P ((opd o).bind fun v => (opdParts xs).bind fun r => f ((i, v) :: r)) rs rr d all l fps k σ Q := by simp only [opdParts, RM.bind_assoc, RM.bind]
theorem pD_load {d' : Option Nat} {ty : Nat} {ps : String} {af : Array Edge} {g : Option (Nat × Bool)} {t : TypeId} {x : Operand} : opD sm C P (astep sm P ⟨d', .load t x, ty, ps, af, g⟩) rs rr d all l fps k σ Q = opD sm C P ((opd x).bind fun x => (loadA P t x).bind fun z => .ret { val := z }) rs rr d all l fps k σ Q := by simp only [astep, val, RM.bind_assoc]
theorem pD_store {d' : Option Nat} {ty : Nat} {ps : String} {af : Array Edge} {g : Option (Nat × Bool)} {t : TypeId} {x y : Operand} : opD sm C P (astep sm P ⟨d', .store t x y, ty, ps, af, g⟩) rs rr d all l fps k σ Q = opD sm C P ((opd x).bind fun x => (opd y).bind fun y => storeA P t x y) rs rr d all l fps k σ Q := rfl
theorem pD_nilCheck {d' : Option Nat} {ty : Nat} {ps : String} {af : Array Edge} {g : Option (Nat × Bool)} {x : Operand} : opD sm C P (astep sm P ⟨d', .nilCheck x, ty, ps, af, g⟩) rs rr d all l fps k σ Q = opD sm C P ((opd x).bind fun x => (nilCheckA x).bind fun z => .ret { val := z }) rs rr d all l fps k σ Q := by simp only [astep, val, RM.bind_assoc]
theorem pD_binOp {d' : Option Nat} {ty : Nat} {ps : String} {af : Array Edge} {g : Option (Nat × Bool)} {b : BinOp} {t u : TypeId} {x y : Operand} : opD sm C P (astep sm P ⟨d', .binOp b t x y u, ty, ps, af, g⟩) rs rr d all l fps k σ Q = opD sm C P ((opd x).bind fun x => (opd y).bind fun z => (binOpA P b t x z y).bind fun z => .ret { val := z }) rs rr d all l fps k σ Q := by simp only [astep, val, RM.bind_assoc]
theorem pD_unOp {d' : Option Nat} {ty : Nat} {ps : String} {af : Array Edge} {g : Option (Nat × Bool)} {b : UnOp} {t : TypeId} {x : Operand} : opD sm C P (astep sm P ⟨d', .unOp b t x, ty, ps, af, g⟩) rs rr d all l fps k σ Q = opD sm C P ((opd x).bind fun x => (unOpA b x).bind fun z => .ret { val := z }) rs rr d all l fps k σ Q := by simp only [astep, val, RM.bind_assoc]
theorem pD_convert {d' : Option Nat} {ty : Nat} {ps : String} {af : Array Edge} {g : Option (Nat × Bool)} {s t : TypeId} {x : Operand} : opD sm C P (astep sm P ⟨d', .convert s t x, ty, ps, af, g⟩) rs rr d all l fps k σ Q = opD sm C P ((opd x).bind fun x => convA P (d'.getD 0) s t x) rs rr d all l fps k σ Q := rfl
theorem pD_makeMap {d' : Option Nat} {ty : Nat} {ps : String} {af : Array Edge} {g : Option (Nat × Bool)} {t : TypeId} : opD sm C P (astep sm P ⟨d', .makeMap t none, ty, ps, af, g⟩) rs rr d all l fps k σ Q = opD sm C P (makeMapA P (d'.getD 0) t) rs rr d all l fps k σ Q := rfl
theorem pD_makeSlice {d' : Option Nat} {ty : Nat} {ps : String} {af : Array Edge} {g : Option (Nat × Bool)} {t : TypeId} {x y : Operand} : opD sm C P (astep sm P ⟨d', .makeSlice t x y, ty, ps, af, g⟩) rs rr d all l fps k σ Q = opD sm C P ((opd x).bind fun x => (opd y).bind fun y => (natOf x).bind fun x => (natOf y).bind fun y => makeSliceA P (d'.getD 0) t x y) rs rr d all l fps k σ Q := rfl
theorem pD_slice {d' : Option Nat} {ty : Nat} {ps : String} {af : Array Edge} {g : Option (Nat × Bool)} {t : TypeId} {x : Operand} {a b c : Option Operand} : opD sm C P (astep sm P ⟨d', .slice t x a b c, ty, ps, af, g⟩) rs rr d all l fps k σ Q = opD sm C P ((opd x).bind fun x => (optNat a).bind fun a => (optNat b).bind fun b => (optNat c).bind fun c => sliceA P t x a b c) rs rr d all l fps k σ Q := rfl
theorem pD_optNat_none {f : Option Int → RM Eff} : opD sm C P ((optNat none).bind f) rs rr d all l fps k σ Q = opD sm C P (f none) rs rr d all l fps k σ Q := rfl
theorem pD_optNat_some {o : Operand} {f : Option Int → RM Eff} : opD sm C P ((optNat (some o)).bind f) rs rr d all l fps k σ Q = opD sm C P ((opd o).bind fun v => (natOf v).bind fun n => f (some n)) rs rr d all l fps k σ Q := by simp only [optNat, RM.bind_assoc, RM.bind]
theorem pD_fieldAddr {d' : Option Nat} {ty : Nat} {ps : String} {af : Array Edge} {g : Option (Nat × Bool)} {t : TypeId} {x : Operand} {n : Nat} : opD sm C P (astep sm P ⟨d', .fieldAddr t x n, ty, ps, af, g⟩) rs rr d all l fps k σ Q = opD sm C P ((opd x).bind fun x => (fieldAddrA P t x n).bind fun z => .ret { val := z }) rs rr d all l fps k σ Q := by simp only [astep, val, RM.bind_assoc]
theorem pD_field {d' : Option Nat} {ty : Nat} {ps : String} {af : Array Edge} {g : Option (Nat × Bool)} {t : TypeId} {x : Operand} {n : Nat} : opD sm C P (astep sm P ⟨d', .field t x n, ty, ps, af, g⟩) rs rr d all l fps k σ Q = opD sm C P ((opd x).bind fun x => (fieldA P t x n).bind fun z => .ret { val := z }) rs rr d all l fps k σ Q := by simp only [astep, val, RM.bind_assoc]
theorem pD_indexAddr {d' : Option Nat} {ty : Nat} {ps : String} {af : Array Edge} {g : Option (Nat × Bool)} {t : TypeId} {x i : Operand} : opD sm C P (astep sm P ⟨d', .indexAddr t x i, ty, ps, af, g⟩) rs rr d all l fps k σ Q = opD sm C P ((opd x).bind fun x => (opd i).bind fun i => (natOf i).bind fun i => (indexAddrA P t x i).bind fun z => .ret { val := z }) rs rr d all l fps k σ Q := by simp only [astep, val, RM.bind_assoc]
theorem pD_index {d' : Option Nat} {ty : Nat} {ps : String} {af : Array Edge} {g : Option (Nat × Bool)} {t : TypeId} {x i : Operand} : opD sm C P (astep sm P ⟨d', .index t x i, ty, ps, af, g⟩) rs rr d all l fps k σ Q = opD sm C P ((opd x).bind fun x => (opd i).bind fun i => (natOf i).bind fun i => (indexA P t x i).bind fun z => .ret { val := z }) rs rr d all l fps k σ Q := by simp only [astep, val, RM.bind_assoc]
theorem pD_lookup {d' : Option Nat} {ty : Nat} {ps : String} {af : Array Edge} {g : Option (Nat × Bool)} {t : TypeId} {x i : Operand} {ok : Bool} : opD sm C P (astep sm P ⟨d', .lookup t x i ok, ty, ps, af, g⟩) rs rr d all l fps k σ Q = opD sm C P ((opd x).bind fun x => (opd i).bind fun i => (lookupA P t x i ok).bind fun z => .ret { val := z }) rs rr d all l fps k σ Q := by simp only [astep, val, RM.bind_assoc]
theorem pD_mapUpdate {d' : Option Nat} {ty : Nat} {ps : String} {af : Array Edge} {g : Option (Nat × Bool)} {t : TypeId} {x i y : Operand} : opD sm C P (astep sm P ⟨d', .mapUpdate t x i y, ty, ps, af, g⟩) rs rr d all l fps k σ Q = opD sm C P ((opd x).bind fun x => (opd i).bind fun i => (opd y).bind fun y => mapUpdateA P t x i y) rs rr d all l fps k σ Q := rfl
theorem pD_range {d' : Option Nat} {ty : Nat} {ps : String} {af : Array Edge} {g : Option (Nat × Bool)} {t : TypeId} {x : Operand} : opD sm C P (astep sm P ⟨d', .range t x, ty, ps, af, g⟩) rs rr d all l fps k σ Q = opD sm C P ((opd x).bind fun x => rangeA P t x) rs rr d all l fps k σ Q := rfl
theorem pD_next {d' : Option Nat} {ty : Nat} {ps : String} {af : Array Edge} {g : Option (Nat × Bool)} {x : Operand} : opD sm C P (astep sm P ⟨d', .next x false, ty, ps, af, g⟩) rs rr d all l fps k σ Q = opD sm C P ((opd x).bind fun x => (nextA x).bind fun z => .ret { val := z }) rs rr d all l fps k σ Q := by simp only [astep, val, RM.bind_assoc]
theorem pD_extract {d' : Option Nat} {ty : Nat} {ps : String} {af : Array Edge} {g : Option (Nat × Bool)} {x : Operand} {n : Nat} : opD sm C P (astep sm P ⟨d', .extract x n, ty, ps, af, g⟩) rs rr d all l fps k σ Q = opD sm C P ((opd x).bind fun x => (extractA x n).bind fun z => .ret { val := z }) rs rr d all l fps k σ Q := by simp only [astep, val, RM.bind_assoc]
theorem pD_builtin {d' : Option Nat} {ty : Nat} {ps : String} {af : Array Edge} {g : Option (Nat × Bool)} {b : Builtin} {xs : List Operand} {ts : List TypeId} : opD sm C P (astep sm P ⟨d', .call ⟨.builtin b, xs.toArray, ts.toArray⟩, ty, ps, af, g⟩) rs rr d all l fps k σ Q = opD sm C P ((opds xs).bind fun vs => builtinA P (d'.getD 0) b ts vs) rs rr d all l fps k σ Q := rfl
theorem pD_callf {d' : Option Nat} {ty : Nat} {ps : String} {af : Array Edge} {g : Option (Nat × Bool)} {h : FuncId} {xs : List Operand} {ts : List TypeId} : opD sm C P (astep sm P ⟨d', .call ⟨.value (.func h), xs.toArray, ts.toArray⟩, ty, ps, af, g⟩) rs rr d all l fps k σ Q = opD sm C P ((opds xs).bind fun vs => callA sm P (d'.getD 0) h vs ts) rs rr d all l fps k σ Q := by simp only [astep, callOpA, opd, RM.bind, List.map_nil, List.nil_append, List.append_nil, List.size_toArray, List.length_nil, List.replicate_zero]
theorem pD_opds_nil {f : List AV → RM Eff} : opD sm C P ((opds []).bind f) rs rr d all l fps k σ Q = opD sm C P (f []) rs rr d all l fps k σ Q := rfl
theorem pD_opds_cons {o : Operand} {xs : List Operand} {f : List AV → RM Eff} : opD sm C P ((opds (o :: xs)).bind f) rs rr d all l fps k σ Q = opD sm C P ((opd o).bind fun v => (opds xs).bind fun r => f (v :: r)) rs rr d all l fps k σ Q := by simp only [opds, RM.bind_assoc, RM.bind]

def backM (r : CRes) (a : List PA × List (Option Bk) × Wr) (dst : Nat) : RM Eff :=
 (backA r.args a.2.1).bind fun b => (mkNew dst 0 r.new).bind fun n => .req (AL.distinct ((live (n.2.map (·.1)) b ++ n.2).map (·.1)) = true) (.ret { val := rekeyAll n.1 r.val, rows := a.2.2 ++ (live (n.2.map (·.1)) b ++ n.2) })
def callSK (sm : FuncId → Nat → Bool) (C : FuncId → List PA → CRes → Prop) (P : Program) (m : RM (List PA × List (Option Bk) × Wr)) (dst : Nat) (f : FuncId) (d : Option Nat) (all : Array Oper) (l : List Oper) (k : List It) (σ : St) (Q : Post) : Prop :=
 opK sm C P (m.bind fun a => .req (AL.distinct (bkKeys a.2.1) = true ∧ disjB (a.2.2.map (·.1)) (bkKeys a.2.1) = true) (.call f a.1 fun r => backM r a dst)) d all l k σ Q
def callSD (sm : FuncId → Nat → Bool) (C : FuncId → List PA → CRes → Prop) (P : Program) (m : RM (List PA × List (Option Bk) × Wr)) (dst : Nat) (f : FuncId) (rs rr : List Nat) (d : Option Nat) (all : Array Oper) (l : List Oper) (fps : List FP) (k : List It) (σ : St) (Q : Post) : Prop :=
 opD sm C P (m.bind fun a => .req (AL.distinct (bkKeys a.2.1) = true ∧ disjB (a.2.2.map (·.1)) (bkKeys a.2.1) = true) (.call f a.1 fun r => backM r a dst)) rs rr d all l fps k σ Q

theorem pK_callA {dst : Nat} {f : FuncId} {vs : List AV} {ts : List TypeId} : opK sm C P (callA sm P dst f vs ts) d all l k σ Q = callSK sm C P (argsA sm P f 0 vs ts) dst f d all l k σ Q := rfl
theorem pK_cs_ret {dst : Nat} {f : FuncId} {a : List PA × List (Option Bk) × Wr} : callSK sm C P (.ret a) dst f d all l k σ Q = (VC (AL.distinct (bkKeys a.2.1) = true ∧ disjB (a.2.2.map (·.1)) (bkKeys a.2.1) = true) ∧ callK C f a.1 (F := ⟨fun r => opK sm C P (backM r a dst) d all l k σ Q⟩)) := rfl
theorem pK_cs_req {dst : Nat} {f : FuncId} {p : Prop} {m : RM (List PA × List (Option Bk) × Wr)} : callSK sm C P (.req p m) dst f d all l k σ Q = (VC p ∧ callSK sm C P (m) dst f d all l k σ Q) := rfl
theorem pK_cs_fail {dst : Nat} {f : FuncId}  : callSK sm C P (.fail) dst f d all l k σ Q = False := rfl
theorem pK_cs_row {dst : Nat} {f : FuncId} {r : Nat} {h : Option Row → RM (List PA × List (Option Bk) × Wr)} : callSK sm C P (.row r h) dst f d all l k σ Q = rowK (lget σ.rows r) (F := ⟨fun o => callSK sm C P (h o) dst f d all l k σ Q⟩) := opK_row
theorem pD_callA {dst : Nat} {f : FuncId} {vs : List AV} {ts : List TypeId} : opD sm C P (callA sm P dst f vs ts) rs rr d all l fps k σ Q = callSD sm C P (argsA sm P f 0 vs ts) dst f rs rr d all l fps k σ Q := rfl
theorem pD_cs_ret {dst : Nat} {f : FuncId} {a : List PA × List (Option Bk) × Wr} : callSD sm C P (.ret a) dst f rs rr d all l fps k σ Q = (VC (AL.distinct (bkKeys a.2.1) = true ∧ disjB (a.2.2.map (·.1)) (bkKeys a.2.1) = true) ∧ callK C f a.1 (F := ⟨fun r => opD sm C P (backM r a dst) rs rr d all l fps k σ Q⟩)) := rfl
theorem pD_cs_req {dst : Nat} {f : FuncId} {p : Prop} {m : RM (List PA × List (Option Bk) × Wr)} : callSD sm C P (.req p m) dst f rs rr d all l fps k σ Q = (VC p ∧ callSD sm C P (m) dst f rs rr d all l fps k σ Q) := rfl
theorem pD_cs_fail {dst : Nat} {f : FuncId}  : callSD sm C P (.fail) dst f rs rr d all l fps k σ Q = False := rfl
theorem pD_cs_row {dst : Nat} {f : FuncId} {r : Nat} {h : Option Row → RM (List PA × List (Option Bk) × Wr)} : callSD sm C P (.row r h) dst f rs rr d all l fps k σ Q = rowK (lget σ.rows r) (F := ⟨fun o => callSD sm C P (h o) dst f rs (r :: rr) d all l fps k σ Q⟩) := rfl
attribute [go_sem ↓] pK_opd_tmp pK_opd_const pK_opd_func pK_bind_ret pK_bind_req pK_bind_fail pK_bind_bind pK_bind_ite pK_rd pK_rd_bind pK_mk pK_mk_bind
attribute [go_sem ↓] pK_move pK_assign pK_assignc pK_assignf pK_pick pK_box pK_alloc pK_build pK_buildSlice pK_parts_nil pK_parts_cons pK_load
attribute [go_sem ↓] pK_store pK_nilCheck pK_binOp pK_unOp pK_convert pK_makeMap pK_makeSlice pK_slice pK_optNat_none pK_optNat_some pK_fieldAddr pK_field
attribute [go_sem ↓] pK_indexAddr pK_index pK_lookup pK_mapUpdate pK_range pK_next pK_extract pK_builtin pK_callf pK_opds_nil pK_opds_cons pD_opd_tmp
attribute [go_sem ↓] pD_opd_const pD_opd_func pD_bind_ret pD_bind_req pD_bind_fail pD_bind_bind pD_bind_ite pD_rd pD_rd_bind pD_mk pD_mk_bind pD_move
attribute [go_sem ↓] pD_assign pD_assignc pD_assignf pD_pick pD_box pD_alloc pD_build pD_buildSlice pD_parts_nil pD_parts_cons pD_load pD_store
attribute [go_sem ↓] pD_nilCheck pD_binOp pD_unOp pD_convert pD_makeMap pD_makeSlice pD_slice pD_optNat_none pD_optNat_some pD_fieldAddr pD_field pD_indexAddr
attribute [go_sem ↓] pD_index pD_lookup pD_mapUpdate pD_range pD_next pD_extract pD_builtin pD_callf pD_opds_nil pD_opds_cons pK_callA pD_callA
attribute [go_sem] slotK_eq rowK_eq backM pK_cs_ret pK_cs_req pK_cs_fail pK_cs_row pD_cs_ret pD_cs_req pD_cs_fail pD_cs_row
end Go.AL
end
