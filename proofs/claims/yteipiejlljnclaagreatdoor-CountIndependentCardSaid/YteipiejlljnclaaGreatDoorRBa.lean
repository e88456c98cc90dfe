/- The abstract layer, part 27: behind a call, the rows merge. No condition. -/
import Derived.Test.YteipiejlljnclaaGreatDoorRAp
set_option linter.unusedVariables false
set_option linter.unusedSectionVars false
set_option linter.unusedSimpArgs false
set_option linter.unnecessarySimpa false
section
namespace Go.AL
section
variable {rows ρ : Rows} {env : Env} {C : FuncId → List PA → CRes → Prop} {d : Bool} {L : List PA} {kof : Nat → Nat} {top : Nat → Option Row}
theorem mkNew_sound (hM : L.length ≤ M) {dst n : Nat} : ∀ {l : List PA} {q : Nat} {rs rr : List Nat} {K : List Pl × Wr → List Nat → List Nat → Prop}, (∀ m a, l[m]? = some a → L[n + q + m]? = some a) → (∀ a ∈ l, CleanPA a) →
  (∀ m, m < l.length → kof (n + q + m) = newKey dst (q + m) ∧ ∀ j, kof (nestKey (n + q + m) j) = nestKey (newKey dst (q + m)) j) → (mkNew dst q l).wp C d ⟨env, rows⟩ rs rr K →
  ∃ pls al rs' rr', K (pls, AnW.wr al) rs' rr' ∧ (∀ x ∈ al, AnFact rows L kof top al x) ∧ ∀ m, m < l.length → ∃ row, pls.getD m ⟨0, 0⟩ = ⟨newKey dst (q + m), row.gen⟩ ∧ (newKey dst (q + m), (row, St3.got (n + q + m))) ∈ al
 | [], q, rs, rr, K, _, _, _, h => ⟨[], [], _, _, h, (fun _ h => by cases h), fun m h => by simp at h⟩
 | a :: l, q, rs, rr, K, hL, hcl, hk, h => by
  have hL' : ∀ m a, l[m]? = some a → L[n + (q + 1) + m]? = some a := fun m a h => by rw [show n + (q + 1) + m = n + q + (m + 1) by omega]; exact hL (m + 1) a (by simpa using h)
  have hcl' : ∀ a ∈ l, CleanPA a := fun a h => hcl a (.tail _ h)
  have hk' : ∀ m, m < l.length → kof (n + (q + 1) + m) = newKey dst (q + 1 + m) ∧ ∀ j, kof (nestKey (n + (q + 1) + m) j) = nestKey (newKey dst (q + 1 + m)) j := fun m hm => by
   rw [show n + (q + 1) + m = n + q + (m + 1) by omega, show q + 1 + m = q + (m + 1) by omega]
   exact hk (m + 1) (by simp; omega)
  have hi0 : L[n + q]? = some a := by simpa using hL 0 a rfl
  have hiM : n + q < M := Nat.lt_of_lt_of_le (List.getElem?_eq_some_iff.1 hi0).1 hM
  have htop := entry_top hM hiM
  rw [hi0, Option.bind_some] at htop
  obtain ⟨k1, k2⟩ := hk 0 (by simp)
  rw [Nat.add_zero, Nat.add_zero] at k1
  simp only [Nat.add_zero] at k2
  have fin : ∀ {al1 al : AnW} {pls : List Pl} {row : Row}, (∀ m, m < l.length → ∃ row, pls.getD m ⟨0, 0⟩ = ⟨newKey dst (q + 1 + m), row.gen⟩ ∧ (newKey dst (q + 1 + m), (row, St3.got (n + (q + 1) + m))) ∈ al) →
    ∀ m, m < (a :: l).length → ∃ row', (⟨newKey dst q, row.gen⟩ :: pls).getD m ⟨0, 0⟩ = ⟨newKey dst (q + m), row'.gen⟩ ∧ (newKey dst (q + m), (row', St3.got (n + q + m))) ∈ al1 ++ ((newKey dst q, (row, St3.got (n + q))) :: al) := by
   intro al1 al pls row h m hm
   cases m with
   | zero => exact ⟨row, rfl, List.mem_append.2 (.inr (.head _))⟩
   | succ m =>
    obtain ⟨row', h1, h2⟩ := h m (by simpa using hm)
    refine ⟨row', ?_, ?_⟩
    ·rw [show q + (m + 1) = q + 1 + m by omega]; simpa using h1
    ·rw [show q + (m + 1) = q + 1 + m by omega, show n + q + (m + 1) = n + (q + 1) + m by omega]
     exact List.mem_append.2 (.inr (.tail _ h2))
  have plain : ∀ (b : Body), topRow (n + q) a = some ⟨0, true, false, b⟩ → (mkNew dst (q + 1) l).wp C d ⟨env, rows⟩ rs (newKey dst q :: rr) (fun r rs rr => K (⟨newKey dst q, freshGen (lget rows (newKey dst q))⟩ :: r.1, (newKey dst q, ⟨freshGen (lget rows (newKey dst q)), true, false, b⟩) :: r.2) rs rr) →
    ∃ pls al rs' rr', K (pls, AnW.wr al) rs' rr' ∧ (∀ x ∈ al, AnFact rows L kof top al x) ∧ ∀ m, m < (a :: l).length → ∃ row, pls.getD m ⟨0, 0⟩ = ⟨newKey dst (q + m), row.gen⟩ ∧ (newKey dst (q + m), (row, St3.got (n + q + m))) ∈ al := by
   intro b htr h
   obtain ⟨pls, al, rs', rr', h, h1, h2⟩ := mkNew_sound hM hL' hcl' hk' h
   refine ⟨_, (newKey dst q, (⟨freshGen (lget rows (newKey dst q)), true, false, b⟩, St3.got (n + q))) :: al, _, _, h, ?_, fun m hm => ?_⟩
   ·intro x hx
    rcases List.mem_cons.1 hx with rfl | hx
    ·exact ⟨k1.symm, _, htop.trans htr, rfl, rfl, rfl, rfl, rfl, .inl fresh_gen⟩
    ·exact (h1 x hx).sub fun q' hq' => .tail _ hq'
   ·exact fin (al1 := []) (row := ⟨freshGen (lget rows (newKey dst q)), true, false, b⟩) h2 m hm
  cases a with
  | data v => exact h.elim
  | lost => exact h.elim
  | slc b =>
   simp only [mkNew, mk, RM.wp, RM.wp_bind] at h
   exact plain b rfl h
  | mp b =>
   simp only [mkNew, mk, RM.wp, RM.wp_bind] at h
   exact plain b rfl h
  | ptr es x subs =>
   rw [mkNew, RM.wp_bind] at h
   obtain ⟨y, al1, rs1, rr1, h, v1, v2⟩ := unpackVal_sound (i := n + q) (hcl _ (.head _)) h
   simp only [mk, RM.wp, RM.wp_bind] at h
   obtain ⟨pls, al, rs', rr', h, h1, h2⟩ := mkNew_sound hM hL' hcl' hk' h
   refine ⟨⟨newKey dst q, freshGen (lget rows (newKey dst q))⟩ :: pls, al1 ++ ((newKey dst q, (⟨freshGen (lget rows (newKey dst q)), true, true, .cells es [y]⟩, St3.got (n + q))) :: al), rs', rr', ?_, ?_, fun m hm => ?_⟩
   ·rw [AnW.wr_append]
    exact h
   ·intro x' hx
    rcases List.mem_append.1 hx with hx | hx
    ·exact (nested_facts hM hi0 k2 v2 x' hx).sub fun q' hq' => List.mem_append.2 (.inl hq')
    ·rcases List.mem_cons.1 hx with rfl | hx
     ·refine ⟨k1.symm, _, htop, rfl, rfl, rfl, rfl, ?_, .inl fresh_gen⟩
      exact ⟨rfl, v1.sub fun q' hq' => List.mem_append.2 (.inl hq')⟩
     ·exact (h1 x' hx).sub fun q' hq' => List.mem_append.2 (.inr (.tail _ hq'))
   ·exact fin (al1 := al1) (row := ⟨freshGen (lget rows (newKey dst q)), true, true, .cells es [y]⟩) h2 m hm

theorem lget_of_mem {α : Type} : ∀ {l : List (Nat × α)} {k : Nat} {v : α}, (l.map (·.1)).Nodup → (k, v) ∈ l → lget l k = some v
 | (k0, v0) :: l, k, v, hn, h => by
  rw [List.map_cons, List.nodup_cons] at hn
  rcases List.mem_cons.1 h with h | h
  ·obtain ⟨rfl, rfl⟩ := by simpa using h
   rw [lget, if_pos rfl]
  ·rw [lget, if_neg (fun e => hn.1 (by rw [show k0 = k from e]; exact List.mem_map.2 ⟨(k, v), h, rfl⟩))]
   exact lget_of_mem hn.2 h
theorem mem_of_lget {α : Type} : ∀ {l : List (Nat × α)} {k : Nat} {v : α}, lget l k = some v → (k, v) ∈ l
 | (k0, v0) :: l, k, v, h => by
  rw [lget] at h
  split at h
  ·rename_i e; obtain rfl := Option.some.inj h; rw [← e]; exact .head _
  ·exact .tail _ (mem_of_lget h)
 | [], _, _, h => by cases h
theorem lget_none {α : Type} {l : List (Nat × α)} {k : Nat} (h : lget l k = none) : k ∉ l.map (·.1) := by
 induction l with
 | nil => simp
 | cons x l ih =>
  obtain ⟨k0, v0⟩ := x
  rw [lget] at h
  split at h
  ·cases h
  ·rename_i hne
   rw [List.map_cons, List.mem_cons, not_or]
   exact ⟨fun e => hne e.symm, ih h⟩
theorem putRows_get : ∀ {al : AnW} {ρ : Rows}, (al.map (·.1)).Nodup → ∀ k, lget (putRows ρ (AnW.wr al)) k = match lget al k with | some x => some x.1 | none => lget ρ k
 | [], _, _, _ => rfl
 | (k0, x0) :: al, ρ, hn, k => by
  rw [List.map_cons, List.nodup_cons] at hn
  show lget (putRows (lput ρ k0 x0.1) (AnW.wr al)) k = _
  rw [putRows_get hn.2 k]
  by_cases h : k0 = k
  ·subst h
   have : lget al k0 = none := by
    cases hq : lget al k0 with
    | none => rfl
    | some v => exact absurd (List.mem_map.2 ⟨(k0, v), mem_of_lget hq, rfl⟩) hn.1
   rw [this, lget, if_pos rfl, lget_lput_same]
  ·rw [lget, if_neg h]
   cases lget al k with
   | some _ => rfl
   | none => exact lget_lput_ne _ (fun e => h e.symm)
def stOf (al : AnW) (k : Nat) : St3 := match lget al k with | some x => x.2 | none => .keep
theorem cellFrom_of {al : AnW} {W τx : Rows} {st : Nat → St3} (hh : ∀ k row kx, (k, (row, St3.got kx)) ∈ al → HandleTo W τx st kx k row.gen) {c c' : AV} (h : CellIn al c c') : CellFrom W τx st c c' := by
 rcases h with ⟨rfl, h⟩ | ⟨kx, n, k, g, h1, h2, row, h3, rfl⟩ | ⟨kx, k, g, h1, h2, row, h3, rfl⟩
 ·refine .inl ⟨rfl, ?_, ?_, ?_, ?_, ?_⟩ <;> (intros; rintro rfl; simp [cleanCell] at h)
 ·exact .inr (.inl ⟨kx, n, k, _, h1, h2, hh _ _ _ h3⟩)
 ·exact .inr (.inr ⟨kx, k, _, h1, h2, hh _ _ _ h3⟩)
theorem cellsFrom_of {al : AnW} {W τx : Rows} {st : Nat → St3} (hh : ∀ k row kx, (k, (row, St3.got kx)) ∈ al → HandleTo W τx st kx k row.gen) : ∀ {cs cs' : List AV}, CellsIn al cs cs' → CellsFrom W τx st cs cs'
 | [], [], _ => trivial
 | _ :: _, _ :: _, h => ⟨cellFrom_of hh h.1, cellsFrom_of hh h.2⟩
 | [], _ :: _, h => h.elim
 | _ :: _, [], h => h.elim
theorem valFrom_of {al : AnW} {W τx : Rows} {st : Nat → St3} (hh : ∀ k row kx, (k, (row, St3.got kx)) ∈ al → HandleTo W τx st kx k row.gen) {c c' : AV} (h : ValIn al c c') : ValFrom W τx st c c' := by
 cases c <;> cases c' <;> first | exact cellFrom_of hh h | exact cellsFrom_of hh h | exact h.elim
theorem merged_of {im : Nat → Prop} {Φ Φx : Nat → Loc} {al : AnW} (hf : Frz rows ρ) (hn : (al.map (·.1)).Nodup) (hfact : ∀ q ∈ al, AnFact rows L kof top al q) (him : ∀ k, im k → k ∈ al.map (·.1))
  (htop : ∀ kx row0 rowx, top kx = some row0 → lget rows (kof kx) = some row0 → lget (entry L).rows kx = some rowx → lget ρ (kof kx) = some row0 ∧ Φx kx = Φ (kof kx) ∧ sameShape row0.body rowx.body) :
  Merged ρ (putRows ρ (AnW.wr al)) (entry L).rows im (stOf al) Φ Φx ∧ ∀ k row kx, (k, (row, St3.got kx)) ∈ al → HandleTo (putRows ρ (AnW.wr al)) (entry L).rows (stOf al) kx k row.gen := by
 have hget := fun k => putRows_get (ρ := ρ) hn k
 have hh : ∀ k row kx, (k, (row, St3.got kx)) ∈ al → HandleTo (putRows ρ (AnW.wr al)) (entry L).rows (stOf al) kx k row.gen := by
  intro k row kx hm
  have hl := lget_of_mem hn hm
  obtain ⟨_, rowx, h1, _⟩ := hfact _ hm
  exact ⟨by simp [stOf, hl], by rw [h1]; rfl, row, by rw [hget, hl], rfl⟩
 have back : ∀ {k : Nat} {row0 : Row}, lget ρ k = some row0 → ∃ row1, lget rows k = some row1 ∧ row1.gen = row0.gen := by
  intro k row0 h0
  obtain ⟨w', h1, h2, _⟩ := hf.back h0
  exact ⟨w', h1, by rw [h2]⟩
 have fresh : ∀ {k g : Nat}, FreshG rows k g → g ≠ 0 ∧ ∀ row0, lget ρ k = some row0 → row0.gen < g := by
  intro k g hg
  refine ⟨?_, fun row0 h0 => ?_⟩
  ·cases hk : lget rows k with
   | none => exact hg.1 hk
   | some r => have := hg.2 r hk; omega
  ·obtain ⟨row1, h1, h2⟩ := back h0
   rw [← h2]; exact hg.2 row1 h1
 refine ⟨⟨?_, ?_, ?_, ?_, ?_⟩, hh⟩
 ·intro k row hk
  rw [hget]
  cases hl : lget al k with
  | none => exact ⟨row, hk, Nat.le_refl _⟩
  | some x =>
   obtain ⟨row', s⟩ := x
   refine ⟨row', rfl, ?_⟩
   have hfa := hfact _ (mem_of_lget hl)
   obtain ⟨row1, g1, g2⟩ := back hk
   cases s with
   | keep => exact hfa.elim
   | dead => have : row1.gen < row'.gen := hfa.2.2.2.2 row1 g1; show row.gen ≤ row'.gen; omega
   | got kx =>
    obtain ⟨_, rowx, _, _, _, _, _, _, h8⟩ := hfa
    rcases h8 with h8 | ⟨row0, _, h9, _, h10, _⟩
    ·have : row.gen < row'.gen := (fresh h8).2 row hk; exact Nat.le_of_lt this
    ·have h9 : lget rows k = some row0 := h9
     rw [g1] at h9; obtain rfl := Option.some.inj h9
     have h10 : row'.gen = row1.gen := h10
     omega
 ·intro k row hk hs
  rw [hget] at hk
  cases hl : lget al k with
  | none =>
   rw [hl] at hk
   exact ⟨hk, fun _ hi => lget_none hl (him k hi)⟩
  | some x =>
   obtain ⟨row', s⟩ := x
   have hfa := hfact _ (mem_of_lget hl)
   have : s = .keep := by simpa [stOf, hl] using hs
   subst this
   exact hfa.elim
 ·intro k row hk hs
  rw [hget] at hk
  cases hl : lget al k with
  | none => simp [stOf, hl] at hs
  | some x =>
   obtain ⟨row', s⟩ := x
   rw [hl] at hk
   obtain rfl : row' = row := by simpa using hk
   have hfa := hfact _ (mem_of_lget hl)
   have : s = .dead := by simpa [stOf, hl] using hs
   subst this
   obtain ⟨h1, h2, h3, h4, h5⟩ := hfa
   refine ⟨h1, h2, h3, h4, fun row0 h0 => ?_⟩
   obtain ⟨row1, g1, g2⟩ := back h0
   rw [← g2]; exact h5 row1 g1
 ·intro k row kx hk hs
  rw [hget] at hk
  cases hl : lget al k with
  | none => simp [stOf, hl] at hs
  | some x =>
   obtain ⟨row', s⟩ := x
   rw [hl] at hk
   obtain rfl : row' = row := by simpa using hk
   have hfa := hfact _ (mem_of_lget hl)
   have : s = .got kx := by simpa [stOf, hl] using hs
   subst this
   obtain ⟨h1, rowx, h2, h3, h4, h5, h6, h7, h8⟩ := hfa
   have h1 : k = kof kx := h1
   refine ⟨rowx, h2, h3, h4, h5, h6, ?_, ?_⟩
   ·unfold BodyFrom
    unfold BodyIn at h7
    split at h7
    ·rename_i e1 e2 e3
     simp only at e1 e2 e3
     rw [e1, e2, e3]
     exact ⟨h7.1, valFrom_of hh h7.2⟩
    ·exact h7.elim
    ·rename_i e1
     simp only at e1
     rw [e1]
     exact h7
   ·rcases h8 with h8 | ⟨row0, h9, h10, h11, h12, h13⟩
    ·exact .inl (fresh h8)
    ·right
     have h10 : lget rows k = some row0 := h10
     subst h1
     obtain ⟨g1, g2, g3⟩ := htop kx row0 rowx h9 h10 h2
     refine ⟨row0, g1, h12.symm, h11, g2, ?_, h13.symm⟩
     unfold BodyIn at h7
     split at h7
     ·rename_i e1 e2 e3
      simp only at e1 e2 e3
      rw [e2] at g3
      rw [e3]
      cases hb : row0.body <;> rw [hb] at g3
      ·have g3 : _ = _ := g3
       show _ = _
       rw [g3]; exact h7.1
      ·exact g3.elim
     ·exact h7.elim
     ·have h7 : row'.body = rowx.body := h7
      rw [h7]; exact g3
 ·intro k k' kx hk hk' hs hs'
  have key : ∀ {k : Nat}, stOf al k = .got kx → k = kof kx := by
   intro k hs
   cases hl : lget al k with
   | none => simp [stOf, hl] at hs
   | some x =>
    obtain ⟨row', s⟩ := x
    have hfa := hfact _ (mem_of_lget hl)
    have : s = .got kx := by simpa [stOf, hl] using hs
    subst this
    exact hfa.1
  rw [key hs, key hs']
end
end Go.AL
end
section
namespace Go.AL
theorem img_keys {ρ : Rows} {as : List PA} {ss : List (Option Pl)} (hl : ss.length = as.length) (hM : as.length ≤ M) (hok : ∀ (i : Nat) (a : PA) (s : Option Pl), as[i]? = some a → ss[i]? = some s → PieceOK ρ s a) {r : Nat}
  (h : Img (entry as).rows (kapOf ρ ss) r) : r ∈ (ss.zip as).flatMap fun p => pieceKeys ρ p.1 p.2 := by
 obtain ⟨k, row', q, hk, hq, rfl⟩ := h
 have zipAt : ∀ {i : Nat} {s : Option Pl} {pa : PA}, ss[i]? = some s → as[i]? = some pa → (s, pa) ∈ ss.zip as := by
  intro i s pa h1 h2
  exact List.mem_of_getElem? (List.getElem?_zip_eq_some.2 ⟨h1, h2⟩)
 rcases key_cases k with hkM | ⟨a, m, ha, rfl⟩
 ·rw [kap_top hkM] at hq
  rw [entry_top hM hkM] at hk
  cases hs : ss[k]? with
  | none => rw [hs] at hq; cases hq
  | some s =>
   rw [hs] at hq
   have hq : s = some q := by simpa using hq
   subst hq
   cases hpa : as[k]? with
   | none => rw [hpa] at hk; cases hk
   | some pa => exact List.mem_flatMap.2 ⟨_, zipAt hs hpa, by simp [pieceKeys]⟩
 ·rw [entry_nest hM ha] at hk
  cases ha1 : as[a]? with
  | none => rw [ha1] at hk; cases hk
  | some pa =>
   rw [ha1] at hk
   simp only [Option.bind_some] at hk
   obtain ⟨s, hs⟩ := ss_at hl ha1
   rw [kap_nest ha, hs] at hq
   cases pa with
   | ptr es y subs =>
    obtain ⟨p, x, rfl, g1, g2, g3⟩ := hok a _ s ha1 hs
    simp only [nestAt] at hk
    cases hc : (cellsOf y)[m]? with
    | none => rw [hc] at hk; cases hk
    | some c =>
     rw [hc] at hk
     simp only [Option.bind_some] at hk
     cases c with
     | nst =>
      simp only [Option.join_some, srcCell, g1] at hq
      cases hcx : (cellsOf x)[m]? with
      | none => rw [hcx] at hq; cases hq
      | some cx =>
       rw [hcx] at hq
       have hq : cellSrc cx = some q := hq
       exact List.mem_flatMap.2 ⟨_, zipAt hs ha1, by simp [pieceKeys, g1, packKeys_mem hcx hq hc]⟩
     | _ => cases hk
   | _ => cases hk
def OutCell (m : Nat) : AV → Prop
 | .hs q o _ => q.r < m ∧ o = 0
 | .hp q i j => q.r < m ∧ i = 0 ∧ j = 0
 | .hm q => q.r < m
 | .agg cs => cleanL cs = true
 | .tup _ => False
 | x => cleanCell x = true
def OutVal (m : Nat) : AV → Prop
 | .tup os => ∀ o ∈ os, OutCell m o
 | x => OutCell m x
def exitPls (n m : Nat) : List Pl := (List.range m).map fun q => ⟨n + q, 0⟩
structure ExitR (N PO : Nat → Prop) (w1 : Base) (as : List PA) (r : CRes) (v : Value) (w' : World) : Prop where
 len : r.args.length = as.length
 clean : ∀ a ∈ r.args ++ r.new, CleanPA a
 out : OutVal r.new.length r.val
 core : ∃ (w2 : Base) (Φx : Nat → Loc), w2.toWorld = w1.toWorld ∧ Core N PO w2 ⟨[(0, rekeyAll (exitPls as.length r.new.length) r.val)], (entry (r.args ++ r.new)).rows⟩ (fun _ => v) w' Φx ∧
  ∀ i, i < as.length → ∀ rowx, lget (entry (r.args ++ r.new)).rows i = some rowx → Φx i = w1.loc i ∧ ∃ row0, lget (entry as).rows i = some row0 ∧ sameShape row0.body rowx.body ∧ row0.box = rowx.box
def SemCtr (P : Program) (f : FuncId) (as : List PA) (r : CRes) : Prop :=
 (∀ args w, (callFunc f args).run P w = .ok (.enter f args) w) ∧ as.length + r.new.length ≤ M ∧ ∀ (N PO : Nat → Prop) (w1 : Base) (args : Array Value), Core N PO w1 (entry as) (fun t => args.getD t undef) w1.toWorld w1.loc → w1.rows0 = (entry as).rows →
  Calls P f args w1.toWorld fun e w' => ∃ v, e = .returned v ∧ ExitR N PO w1 as r v w'
end Go.AL
end
section
namespace Go.AL
theorem clean_from {W τx : Rows} {st : Nat → St3} {c : AV} (h : cleanCell c = true) : CellFrom W τx st c c := by
 refine .inl ⟨rfl, ?_, ?_, ?_, ?_, ?_⟩ <;> (intros; rintro rfl; simp [cleanCell] at h)
theorem cleanL_from {W τx : Rows} {st : Nat → St3} : ∀ {cs : List AV}, cleanL cs = true → CellsFrom W τx st cs cs
 | [], _ => trivial
 | c :: cs, h => by
  simp only [cleanL, Bool.and_eq_true] at h
  exact ⟨clean_from h.1, cleanL_from h.2⟩
theorem AnW.keys (al : AnW) : (AnW.wr al).map (·.1) = al.map (·.1) := by unfold AnW.wr; rw [List.map_map]; rfl
def liveA (ks : List Nat) : AnW → AnW
 | [] => []
 | (k, x) :: l => if x.1.own = true then (k, x) :: liveA ks l else if inL k ks = true then liveA ks l else (k, x) :: liveA ks l
theorem live_wr (ks : List Nat) : ∀ al : AnW, live ks (AnW.wr al) = AnW.wr (liveA ks al)
 | [] => rfl
 | (k, x) :: l => by
  have ih := live_wr ks l
  show live ks ((k, x.1) :: AnW.wr l) = _
  unfold live liveA
  split
  ·rw [ih]; rfl
  ·split
   ·exact ih
   ·rw [ih]; rfl
theorem liveA_sub (ks : List Nat) : ∀ {al : AnW} {q : Nat × (Row × St3)}, q ∈ liveA ks al → q ∈ al
 | (k, x) :: l, q, h => by
  have key : q ∈ (k, x) :: liveA ks l → q ∈ (k, x) :: l := fun h => by
   rcases List.mem_cons.1 h with rfl | h
   ·exact .head _
   ·exact .tail _ (liveA_sub ks h)
  unfold liveA at h
  split at h
  ·exact key h
  ·split at h
   ·exact .tail _ (liveA_sub ks h)
   ·exact key h
theorem liveA_own (ks : List Nat) : ∀ {al : AnW} {q : Nat × (Row × St3)}, q ∈ al → q.2.1.own = true → q ∈ liveA ks al
 | (k, x) :: l, q, h, ho => by
  unfold liveA
  rcases List.mem_cons.1 h with rfl | h
  ·rw [if_pos ho]; exact .head _
  ·split
   ·exact .tail _ (liveA_own ks h ho)
   ·split
    ·exact liveA_own ks h ho
    ·exact .tail _ (liveA_own ks h ho)
theorem liveA_cover (ks : List Nat) : ∀ {al : AnW} {k : Nat}, k ∈ al.map (·.1) → k ∈ (liveA ks al).map (·.1) ∨ k ∈ ks
 | (k', x) :: l, k, h => by
  unfold liveA
  rcases List.mem_cons.1 h with rfl | h
  ·split
   ·exact .inl (.head _)
   ·split
    ·rename_i hc; exact .inr (inL_iff.1 hc)
    ·exact .inl (.head _)
  ·rcases liveA_cover ks h with h | h
   ·left
    split
    ·exact .tail _ h
    ·split
     ·exact h
     ·exact .tail _ h
   ·exact .inr h
theorem CellIn.subG {al al' : AnW} (hs : ∀ k row kx, (k, (row, St3.got kx)) ∈ al → (k, (row, St3.got kx)) ∈ al') {c c' : AV} (h : CellIn al c c') : CellIn al' c c' := by
 rcases h with h | ⟨kx, n, k, g, h1, h2, row, h3, h4⟩ | ⟨kx, k, g, h1, h2, row, h3, h4⟩
 ·exact .inl h
 ·exact .inr (.inl ⟨kx, n, k, g, h1, h2, row, hs _ _ _ h3, h4⟩)
 ·exact .inr (.inr ⟨kx, k, g, h1, h2, row, hs _ _ _ h3, h4⟩)
theorem CellsIn.subG {al al' : AnW} (hs : ∀ k row kx, (k, (row, St3.got kx)) ∈ al → (k, (row, St3.got kx)) ∈ al') : ∀ {cs cs' : List AV}, CellsIn al cs cs' → CellsIn al' cs cs'
 | [], [], _ => trivial
 | _ :: _, _ :: _, h => ⟨h.1.subG hs, CellsIn.subG hs h.2⟩
 | [], _ :: _, h => h.elim
 | _ :: _, [], h => h.elim
theorem ValIn.subG {al al' : AnW} (hs : ∀ k row kx, (k, (row, St3.got kx)) ∈ al → (k, (row, St3.got kx)) ∈ al') {c c' : AV} (h : ValIn al c c') : ValIn al' c c' := by
 cases c <;> cases c' <;> first | exact CellIn.subG hs h | exact CellsIn.subG hs h | exact h.elim
theorem BodyIn.subG {al al' : AnW} (hs : ∀ k row kx, (k, (row, St3.got kx)) ∈ al → (k, (row, St3.got kx)) ∈ al') {box : Bool} {b b' : Body} (h : BodyIn al box b b') : BodyIn al' box b b' := by
 unfold BodyIn at h ⊢
 split at h
 ·exact ⟨h.1, h.2.subG hs⟩
 ·exact h.elim
 ·exact h
theorem AnFact.subG {rows : Rows} {L : List PA} {kof : Nat → Nat} {top : Nat → Option Row} {al al' : AnW} (hs : ∀ k row kx, (k, (row, St3.got kx)) ∈ al → (k, (row, St3.got kx)) ∈ al') {q : Nat × (Row × St3)} (h : AnFact rows L kof top al q) : AnFact rows L kof top al' q := by
 unfold AnFact at h ⊢
 split at h
 ·exact h.elim
 ·rename_i e; exact h
 ·obtain ⟨h1, rowx, h2, h3, h4, h5, h6, h7, h8⟩ := h
  exact ⟨h1, rowx, h2, h3, h4, h5, h6, h7.subG hs, h8⟩
def baseOf (bks : List (Option Bk)) (dst n i : Nat) : Nat := if i < n then (((bks[i]?).join).map (·.r)).getD 0 else newKey dst (i - n)
def kofOf (bks : List (Option Bk)) (dst n kx : Nat) : Nat := if kx < M then baseOf bks dst n kx else nestKey (baseOf bks dst n (kx % M)) (kx / M - 1)
def topOf (bks : List (Option Bk)) (n kx : Nat) : Option Row := if kx < n then ((bks[kx]?).join).map (·.w) else none
theorem kof_nest {bks : List (Option Bk)} {dst n a m : Nat} (h : a < M) : kofOf bks dst n (nestKey a m) = nestKey (baseOf bks dst n a) m := by
 unfold kofOf
 have h1 : ¬ nestKey a m < M := by unfold nestKey M; omega
 have h2 : nestKey a m % M = a := by unfold nestKey; unfold M at h ⊢; omega
 have h3 : nestKey a m / M - 1 = m := by unfold nestKey; unfold M at h ⊢; omega
 rw [if_neg h1, h2, h3]
section
variable {N PO : Nat → Prop} {w0 : Base} {w : World} {env : Env} {rows : Rows} {ce : Nat → Value} {Φ : Nat → Loc}
variable {P : Program} {C : FuncId → List PA → CRes → Prop} {d : Bool} {rs rr : List Nat}
theorem bk_facts {vs : List AV} {vals : List Value} {as : List PA} {bks : List (Option Bk)} {wr : Wr} (ha : ArgsOut w N rows Φ vs vals as bks wr) {m : Nat} {k : Bk} (hk : bks[m]? = some (some k)) :
  lget rows k.r = some k.w ∧ k.w.own = true ∧ (∀ q ∈ k.nested, lget rows q.1 = some q.2) ∧ (k.w.box = false → k.nested = []) ∧ k.r ∈ bkKeys bks ∧ ∃ a row0, as[m]? = some a ∧ topRow m a = some row0 ∧ k.w.box = row0.box ∧ sameShape k.w.body row0.body := by
 have hm : m < as.length := by have := (List.getElem?_eq_some_iff.1 hk).1; rw [ha.lens.2] at this; exact this
 obtain ⟨v, val, bk, wr', g1, g2, g3, g4, g5, g6⟩ := ha.at m as[m] (List.getElem?_eq_getElem hm)
 rw [hk] at g2
 obtain rfl := Option.some.inj g2
 have hin := g6 k rfl k.r (.inl rfl)
 have hat := List.getElem?_eq_getElem hm
 generalize as[m] = a at g4 hat
 cases g4 with
 | slc e0 e1 e2 => exact ⟨e1, rfl, (fun _ h => by cases h), fun _ => rfl, hin, _, _, hat, rfl, rfl, rfl⟩
 | ptr e0 e1 e2 e3 e4 => exact ⟨e1, rfl, e2.got, (fun h => by cases h), hin, _, _, hat, rfl, rfl, rfl⟩
 | mp e0 e1 => exact ⟨e1, rfl, (fun _ h => by cases h), fun _ => rfl, hin, _, _, hat, rfl, rfl, rfl⟩
theorem callA_sound {sm : FuncId → Nat → Bool} (hC : ∀ f as r, C f as r → SemCtr P f as r) (h : Core N PO w0 ⟨env, rows⟩ ce w Φ) {dst : Nat} {f : FuncId} {vs : List AV} {vals : List Value} {ts : List TypeId} {K : Eff → List Nat → List Nat → Prop}
  (hv : RL N rows Φ w vs vals) (hh : (callA sm P dst f vs ts).wp C d ⟨env, rows⟩ rs rr K) :
  (∀ args w, (callFunc f args).run P w = .ok (.enter f args) w) ∧ Calls P f vals.toArray w fun e w' => ∃ v, e = .returned v ∧ ∃ ef rs' rr', K ef rs' rr' ∧ Fine N PO w0 env ce (putRows rows ef.rows) w' ef.val v := by
 unfold callA at hh
 rw [RM.wp_bind] at hh
 obtain ⟨as, bks, wr, rs1, rr1, hh, ha⟩ := argsA_sound h.rows hv hh
 obtain ⟨⟨hd, hj⟩, r, hc, hh⟩ := hh
 obtain ⟨hcf, hmax, hsem⟩ := hC _ _ _ hc
 refine ⟨hcf, ?_⟩
 have hmax : as.length + r.new.length ≤ M := hmax
 have hM : as.length ≤ M := by omega
 obtain ⟨hcore, hent⟩ := ent_core (w1 := { w with loc := locTo (entry as).rows (kapOf (putRows rows wr) (srcOf bks)) Φ, rows0 := (entry as).rows }) h ha hd hj hM rfl rfl rfl
 have hcalls := hsem _ _ _ vals.toArray hent rfl
 refine Calls.mono hcalls ?_
 rintro e w' ⟨v, rfl, hx⟩
 refine ⟨v, rfl, ?_⟩
 obtain ⟨hlen, hcl, hout, w2, Φx, hw2, hcx, hsame⟩ := hx
 have hlen : r.args.length = as.length := hlen
 have hML : (r.args ++ r.new).length ≤ M := by rw [List.length_append, hlen]; exact hmax
 have hbl : r.args.length = bks.length := by rw [hlen, ha.lens.2]
 have hLa : ∀ m a, r.args[m]? = some a → (r.args ++ r.new)[0 + m]? = some a := fun m a h => by
  rw [Nat.zero_add, List.getElem?_append_left (List.getElem?_eq_some_iff.1 h).1]; exact h
 have hLn : ∀ m a, r.new[m]? = some a → (r.args ++ r.new)[as.length + 0 + m]? = some a := fun m a h => by
  rw [Nat.add_zero, List.getElem?_append_right (by omega), ← h]; congr 1; omega
 have hbM : ∀ m, m < as.length → m < M := fun m hm => Nat.lt_of_lt_of_le hm hM
 rw [RM.wp_bind] at hh
 obtain ⟨alb, rs2, rr2, hh, hb1, hb2⟩ := backA_sound (L := r.args ++ r.new) (kof := kofOf bks dst as.length) (top := topOf bks as.length) (i := 0) hML hbl hLa (fun a ha' => hcl a (List.mem_append.2 (.inl ha'))) (by
  intro m k hk
  have hm : m < as.length := by have := (List.getElem?_eq_some_iff.1 hk).1; rw [ha.lens.2] at this; exact this
  obtain ⟨f1, f2, f3, f4, f5, a0, row0, f6, f7, f8, f9⟩ := bk_facts ha hk
  have hbase : baseOf bks dst as.length m = k.r := by simp [baseOf, hm, hk]
  rw [Nat.zero_add]
  refine ⟨by rw [kofOf, if_pos (hbM m hm), hbase], fun j => by rw [kof_nest (hbM m hm), hbase], by simp [topOf, hm, hk], f1, f2, f3, f4, fun a row' h1 h2 => ?_⟩
  have hL := hLa m a h1
  rw [Nat.zero_add] at hL
  have htop : lget (entry (r.args ++ r.new)).rows m = some row' := by rw [entry_top hML (hbM m hm), hL]; exact h2
  obtain ⟨_, rowe, g1, _, g2⟩ := hsame m hm row' htop
  rw [entry_top hM (hbM m hm), f6, Option.bind_some, f7] at g1
  obtain rfl := Option.some.inj g1
  exact f8.trans g2) hh
 rw [RM.wp_bind] at hh
 obtain ⟨pls, aln, rs3, rr3, hh, hn1, hn2⟩ := mkNew_sound (L := r.args ++ r.new) (kof := kofOf bks dst as.length) (top := topOf bks as.length) (n := as.length) (q := 0) hML hLn (fun a ha' => hcl a (List.mem_append.2 (.inr ha'))) (by
  intro m hm
  have hlt : as.length + 0 + m < M := by omega
  have hbase : baseOf bks dst as.length (as.length + 0 + m) = newKey dst (0 + m) := by
   unfold baseOf
   rw [if_neg (by omega)]
   congr 1
   omega
  exact ⟨by rw [kofOf, if_pos hlt, hbase], fun j => by rw [kof_nest hlt, hbase]⟩) hh
 rw [live_wr] at hh
 have hb1' : ∀ q ∈ liveA ((AnW.wr aln).map (·.1)) alb, AnFact rows (r.args ++ r.new) (kofOf bks dst as.length) (topOf bks as.length) (liveA ((AnW.wr aln).map (·.1)) alb ++ aln) q := fun q hq =>
  (hb1 q (liveA_sub _ hq)).subG fun k row kx h3 => List.mem_append.2 (.inl (liveA_own _ h3 (by
   obtain ⟨_, _, _, _, _, g5, _⟩ := (hb1 _ h3 : GotRow rows (r.args ++ r.new) (kofOf bks dst as.length) (topOf bks as.length) alb k row kx)
   exact g5)))
 have hb2' : ∀ k ∈ bkKeys bks, k ∈ (liveA ((AnW.wr aln).map (·.1)) alb ++ aln).map (·.1) := fun k hk => by
  rw [List.map_append]
  rcases liveA_cover ((AnW.wr aln).map (·.1)) (hb2 k hk) with h | h
  ·exact List.mem_append.2 (.inl h)
  ·rw [AnW.keys] at h; exact List.mem_append.2 (.inr h)
 clear hb1 hb2
 generalize liveA ((AnW.wr aln).map (·.1)) alb = alb at *
 obtain ⟨hdist, hh⟩ := hh
 have hdist : distinct ((AnW.wr alb ++ AnW.wr aln).map (·.1)) = true := hdist
 rw [← AnW.wr_append] at hdist
 have hnd : ((alb ++ aln).map (·.1)).Nodup := by
  have := distinct_nodup hdist
  rw [AnW.keys] at this
  exact this
 have hfz := ha.frz.put (Frz.refl rows)
 obtain ⟨hmg, hht⟩ := merged_of (rows := rows) (ρ := putRows rows wr) (L := r.args ++ r.new) (kof := kofOf bks dst as.length) (top := topOf bks as.length) (im := Img (entry as).rows (kapOf (putRows rows wr) (srcOf bks))) (Φ := Φ) (Φx := Φx) (al := alb ++ aln) hfz hnd
  (fun q hq => by
   rcases List.mem_append.1 hq with hq | hq
   ·exact hb1' q hq
   ·exact (hn1 q hq).sub fun q' hq' => List.mem_append.2 (.inr hq'))
  (fun k hk => by
   have := img_keys (by rw [srcOf, List.length_map]; exact ha.lens.2) hM (ent_piece ha hj) hk
   rw [ent_keys ha hj ha (fun _ h => h)] at this
   exact hb2' k this)
  (fun kx row0 rowx h1 h2 h3 => by
   unfold topOf at h1
   split at h1
   ·rename_i hkx
    cases hk : (bks[kx]?).join with
    | none => rw [hk] at h1; cases h1
    | some k =>
     rw [hk] at h1
     obtain rfl := Option.some.inj h1
     have hk' : bks[kx]? = some (some k) := by
      cases hq : bks[kx]? with
      | none => rw [hq] at hk; cases hk
      | some o => rw [hq] at hk; rw [show o = some k by simpa using hk]
     obtain ⟨f1, f2, f3, f4, f5, a0, row0, f6, f7, f8, f9⟩ := bk_facts ha hk'
     have hbase : baseOf bks dst as.length kx = k.r := by simp [baseOf, hkx, hk']
     have hkof : kofOf bks dst as.length kx = k.r := by rw [kofOf, if_pos (hbM kx hkx), hbase]
     rw [hkof]
     obtain ⟨g1, rowe, g2, g3, g4⟩ := hsame kx hkx rowx h3
     have htopl : lget (entry as).rows kx = some row0 := by rw [entry_top hM (hbM kx hkx), f6]; exact f7
     rw [htopl] at g2
     obtain rfl := Option.some.inj g2
     have hkap : kapOf (putRows rows wr) (srcOf bks) kx = some ⟨k.r, k.w.gen⟩ := by
      rw [kap_top (hbM kx hkx)]
      simp [srcOf, hk']
     refine ⟨(ent_keep ha hj f5).trans f1, ?_, ?_⟩
     ·rw [g1]
      exact locTo_eq (by rw [htopl]; rfl) hkap
     ·cases hb1 : k.w.body <;> cases hb2 : row0.body <;> cases hb3 : rowx.body <;> simp_all [sameShape]
   ·cases h1)
 have hfin := Core.merge hcore hcx hw2 hmg
 refine ⟨_, _, _, hh, locM (stOf (alb ++ aln)) Φ Φx, ?_, ?_⟩
 ·show Core N PO w0 ⟨env, putRows rows (wr ++ (AnW.wr alb ++ AnW.wr aln))⟩ ce w' _
  rw [putRows_append, ← AnW.wr_append]
  exact hfin
 ·show Rep w' (Av N (putRows rows (wr ++ (AnW.wr alb ++ AnW.wr aln))) _) (Hd (putRows rows (wr ++ (AnW.wr alb ++ AnW.wr aln))) _ w') (rekeyAll pls r.val) v
  rw [putRows_append, ← AnW.wr_append]
  have h0 := hcx.env 0
  have hslot : St.slot ⟨[(0, rekeyAll (exitPls as.length r.new.length) r.val)], (entry (r.args ++ r.new)).rows⟩ 0 = rekeyAll (exitPls as.length r.new.length) r.val := rfl
  rw [hslot] at h0
  have hpl : ∀ q, q < r.new.length → (exitPls as.length r.new.length).getD q ⟨0, 0⟩ = ⟨as.length + q, 0⟩ := by
   intro q hq
   simp [exitPls, List.getD, hq]
  have cell : ∀ {c : AV} {u : Value}, OutCell r.new.length c → R (Nx N (putRows rows wr) (Img (entry as).rows (kapOf (putRows rows wr) (srcOf bks))) Φ) (entry (r.args ++ r.new)).rows Φx w' (rekey (exitPls as.length r.new.length) c) u →
    R N (putRows (putRows rows wr) (AnW.wr (alb ++ aln))) (locM (stOf (alb ++ aln)) Φ Φx) w' (rekey pls c) u := by
   intro c u ho hr
   have handle : ∀ {q : Pl}, q.r < r.new.length → ∃ g, pls.getD q.r ⟨0, 0⟩ = ⟨newKey dst q.r, g⟩ ∧ HandleTo (putRows (putRows rows wr) (AnW.wr (alb ++ aln))) (entry (r.args ++ r.new)).rows (stOf (alb ++ aln)) (as.length + q.r) (newKey dst q.r) g := by
    intro q hq
    obtain ⟨row, e1, e2⟩ := hn2 q.r hq
    rw [Nat.zero_add] at e1 e2
    rw [Nat.add_zero] at e2
    exact ⟨row.gen, e1, hht _ _ _ (List.mem_append.2 (.inr e2))⟩
   cases c with
   | hs q o n' =>
    obtain ⟨ho1, rfl⟩ := ho
    obtain ⟨g, e1, e2⟩ := handle ho1
    simp only [rekey, hpl q.r ho1] at hr
    simp only [rekey, e1]
    exact mg_hs hcore hcx hw2 hmg e2 hr
   | hp q i j =>
    obtain ⟨ho1, rfl, rfl⟩ := ho
    obtain ⟨g, e1, e2⟩ := handle ho1
    simp only [rekey, hpl q.r ho1] at hr
    simp only [rekey, e1]
    exact mg_hp hcore hcx hw2 hmg e2 hr
   | hm q =>
    obtain ⟨g, e1, e2⟩ := handle (q := q) ho
    have ho1 : q.r < r.new.length := ho
    simp only [rekey, hpl q.r ho1] at hr
    simp only [rekey, e1]
    exact mg_hm hcore hcx hw2 hmg e2 hr
   | agg cs =>
    obtain ⟨us, rfl, h1, h2⟩ := hr
    exact ⟨us, rfl, h1, mg_cells hcore hcx hw2 hmg h2 (cleanL_from ho)⟩
   | tup cs => exact ho.elim
   | _ => exact mg_cell hcore hcx hw2 hmg hr (clean_from ho)
  have cells : ∀ {cs : List AV} {us : List Value}, (∀ c ∈ cs, OutCell r.new.length c) → RL (Nx N (putRows rows wr) (Img (entry as).rows (kapOf (putRows rows wr) (srcOf bks))) Φ) (entry (r.args ++ r.new)).rows Φx w' (cs.map (rekey (exitPls as.length r.new.length))) us →
    RL N (putRows (putRows rows wr) (AnW.wr (alb ++ aln))) (locM (stOf (alb ++ aln)) Φ Φx) w' (cs.map (rekey pls)) us := by
   intro cs
   induction cs with
   | nil => intro us _ hr; cases us with
    | nil => exact trivial
    | cons _ _ => exact hr.elim
   | cons c cs ih => intro us ho hr; cases us with
    | nil => exact hr.elim
    | cons u us => exact ⟨cell (ho c (.head _)) hr.1, ih (fun c hc => ho c (.tail _ hc)) hr.2⟩
  by_cases ht : ∃ cs, r.val = .tup cs
  ·obtain ⟨cs, hcs⟩ := ht
   rw [hcs] at h0 hout ⊢
   obtain ⟨us, rfl, h1⟩ := h0
   exact ⟨us, rfl, cells hout h1⟩
  ·have e1 : ∀ ps, rekeyAll ps r.val = rekey ps r.val := fun ps => by
    cases hq : r.val with
    | tup cs => exact absurd ⟨cs, hq⟩ ht
    | _ => rfl
   have e2 : OutCell r.new.length r.val := by
    unfold OutVal at hout
    split at hout
    ·rename_i os hq; exact absurd ⟨os, hq⟩ ht
    ·exact hout
   rw [e1] at h0 ⊢
   exact cell e2 h0
end
end Go.AL
end
section
namespace Go.AL
section
variable {N PO : Nat → Prop} {w1 : Base} {w : World} {env : Env} {rows : Rows} {Φ : Nat → Loc} {a : Act}
variable {P : Program} {C : FuncId → List PA → CRes → Prop} {d : Bool}
theorem resVals_sound (h : Core N PO w1 ⟨env, rows⟩ a.val w Φ) : ∀ {l : List ResultVar} {rs rr : List Nat} {K : List AV → List Nat → List Nat → Prop}, (resVals P l).wp C d ⟨env, rows⟩ rs rr K →
  ∃ vs us rs' rr', K vs rs' rr' ∧ RL N rows Φ w vs us ∧ (l.mapM fun x : ResultVar => match x with
   | .tmp t => pure (a.tmps.getD t undef)
   | .cell c t => do loadVar t (← asAddr (a.tmps.getD c undef))).run P w = .ok us w
 | [], rs, rr, K, hh => ⟨[], [], _, _, hh, trivial, by simp⟩
 | .tmp t :: l, rs, rr, K, hh => by
  rw [resVals, RM.wp, RM.wp_bind] at hh
  obtain ⟨vs, us, rs', rr', hh, h1, h2⟩ := resVals_sound h hh
  refine ⟨_, a.tmps.getD t undef :: us, _, _, hh, ⟨h.env t, h1⟩, ?_⟩
  rw [List.mapM_cons]
  simp only [Sem.run_bind, Sem.run_pure, Result.andThen_ok, h2]
 | .cell c t :: l, rs, rr, K, hh => by
  rw [resVals, RM.wp, RM.wp_bind] at hh
  obtain ⟨x, rs1, rr1, v, ad, hh, e1, e2, e3⟩ := loadA_sound (P := P) h.rows (h.env c) hh
  rw [RM.wp_bind] at hh
  obtain ⟨vs, us, rs', rr', hh, h1, h2⟩ := resVals_sound h hh
  refine ⟨_, v :: us, _, _, hh, ⟨e3, h1⟩, ?_⟩
  have e1 : a.tmps.getD c undef = .pointer (some ad) := e1
  have e4 : (asAddr (a.tmps.getD c undef)).run P w = .ok ad w := by rw [e1]; rfl
  rw [List.mapM_cons]
  simp only [Sem.run_bind, Sem.run_pure, Result.andThen_ok, h2, e4, e2]
def retVal : List Value → Value
 | [u] => u
 | us => .tuple us.toArray
theorem run_results (fn : Func) {us : List Value} (h : (fn.results.toList.mapM fun x : ResultVar => match x with
   | .tmp t => pure (a.tmps.getD t undef)
   | .cell c t => do loadVar t (← asAddr (a.tmps.getD c undef))).run P w = .ok us w) : (results fn a.tmps).run P w = .ok (retVal us) w := by
 unfold results
 rw [Array.mapM_eq_mapM_toList]
 have h' : ∀ f : ResultVar → Sem Value, f = (fun x : ResultVar => match x with
   | .tmp t => pure (a.tmps.getD t undef)
   | .cell c t => do loadVar t (← asAddr (a.tmps.getD c undef))) → (fn.results.toList.mapM f).run P w = .ok us w := fun f hf => by rw [hf]; exact h
 rw [Sem.run_bind, Sem.run_map, h' _ (by funext x; cases x <;> rfl)]
 simp only [Result.andThen_ok, Sem.run_pure]
 congr 1
 clear h h'
 cases us with
 | nil => rfl
 | cons u us => cases us with
  | nil => rfl
  | cons v us => simp [retVal]

def arg1 (i : Nat) : PA → Option Pl
 | .data _ => none
 | .lost => none
 | _ => some ⟨i, 0⟩
def argS : Nat → List PA → List (Option Pl)
 | _, [] => []
 | i, a :: l => arg1 i a :: argS (i + 1) l
def hpair : AV → AV → Option (Pl × Nat)
 | .hs p _ _, .hs q _ _ => some (p, q.r)
 | .hm p, .hm q => some (p, q.r)
 | .hp p _ _, .hp q _ _ => some (p, q.r)
 | _, _ => none
def newS : List AV → List AV → List (Option Pl)
 | v :: vs, o :: os => match hpair v o with
  | some p => some p.1 :: newS vs os
  | none => newS vs os
 | _, _ => []
theorem argS_at : ∀ (l : List PA) (i j : Nat), (argS i l)[j]? = (l[j]?).map (arg1 (i + j))
 | [], i, j => by simp [argS]
 | a :: l, i, 0 => by simp [argS]
 | a :: l, i, j + 1 => by simp only [argS, List.getElem?_cons_succ, argS_at l]; congr 2; omega
theorem argS_len : ∀ (l : List PA) (i : Nat), (argS i l).length = l.length
 | [], _ => rfl
 | _ :: l, i => by simp [argS, argS_len l]
theorem memOut_piece {r g : Nat} {a : PA} (h : memOut rows r g a) : PieceOK rows (some ⟨r, g⟩) a ∧ (∀ i, arg1 i a = some ⟨i, 0⟩) := by
 unfold memOut at h
 split at h
 ·rename_i g' es x es' y subs h0
  obtain ⟨rfl, rfl, h1, h2⟩ := h
  exact ⟨⟨_, x, rfl, h0, h2, h1⟩, fun _ => rfl⟩
 ·rename_i g' es xs es' ys h0
  obtain ⟨rfl, rfl, rfl⟩ := h
  exact ⟨⟨xs, h0, by simp⟩, fun _ => rfl⟩
 ·rename_i g' kk es kk' es' h0
  obtain ⟨rfl, rfl, rfl⟩ := h
  exact ⟨⟨_, rfl, h0⟩, fun _ => rfl⟩
 ·exact h.elim
theorem argsOK_len : ∀ {as l : List PA} {i : Nat}, argsOK rows i as l → l.length = as.length := by
 intro as l i
 fun_induction argsOK rows i as l with
 | case1 => intro _; rfl
 | case2 i v l a l' ih => intro h; simp [ih h.2]
 | case3 i a l l' hn ih => intro h; simp [ih h]
 | case4 i a l a' l' h1 h2 ih => intro h; simp [ih h.2]
 | case5 => intro h; exact h.elim
theorem argsOK_at : ∀ {as l : List PA} {i : Nat}, argsOK rows i as l → ∀ {j : Nat} {a : PA}, l[j]? = some a → PieceOK rows (arg1 (i + j) a) a ∧ (arg1 (i + j) a = none ∨ memOut rows (i + j) 0 a) := by
 intro as l i
 fun_induction argsOK rows i as l with
 | case1 => intro _ j a h; simp at h
 | case2 i v l a l' ih =>
  intro h j a' hj
  cases j with
  | zero => simp at hj; subst hj; rw [h.1]; exact ⟨rfl, .inl rfl⟩
  | succ j => have := ih h.2 (j := j) (by simpa using hj); rwa [Nat.add_right_comm] at this
 | case3 i a l l' hn ih =>
  intro h j a' hj
  cases j with
  | zero => simp at hj; subst hj; exact ⟨rfl, .inl rfl⟩
  | succ j => have := ih h (j := j) (by simpa using hj); rwa [Nat.add_right_comm] at this
 | case4 i a l a' l' h1 h2 ih =>
  intro h j a'' hj
  cases j with
  | zero =>
   simp at hj; subst hj
   obtain ⟨g1, g2⟩ := memOut_piece h.1
   rw [Nat.add_zero, g2]
   exact ⟨g1, .inr h.1⟩
  | succ j => have := ih h.2 (j := j) (by simpa using hj); rwa [Nat.add_right_comm] at this
 | case5 => intro h; exact h.elim
theorem kept_keys1 (i : Nat) (a : PA) : pieceKeys rows (arg1 i a) a = memKeys rows i a := by
 unfold memKeys
 cases a with
 | data v => simp [arg1, pieceKeys]
 | lost => simp [arg1, pieceKeys]
 | ptr es y subs =>
  simp only [arg1, pieceKeys]
  split <;> simp_all
 | slc b => simp [arg1, pieceKeys]
 | mp b => simp [arg1, pieceKeys]
theorem kept_keys : ∀ (l : List PA) (i : Nat), ((argS i l).zip l).flatMap (fun p => pieceKeys rows p.1 p.2) = keptKeys rows i l
 | [], _ => rfl
 | a :: l, i => by simp only [argS, List.zip_cons_cons, List.flatMap_cons, keptKeys, kept_keys l, kept_keys1]
theorem cellOut_clean {x y : AV} (h : cellOut rows x y) : cleanCell y = true := by
 unfold cellOut at h
 split at h <;> first | rfl | exact h.elim
theorem outOK_pair {new : List PA} {v o : AV} (h : outOK rows new v o) (vs os : List AV) :
  (∃ p q a, hpair v o = some (p, q) ∧ outIdx (o :: os) = q :: outIdx os ∧ new[q]? = some a ∧ PieceOK rows (some p) a ∧ outKeys rows new (v :: vs) (o :: os) = pieceKeys rows (some p) a ++ outKeys rows new vs os) ∨
  (hpair v o = none ∧ outIdx (o :: os) = outIdx os ∧ outKeys rows new (v :: vs) (o :: os) = outKeys rows new vs os) := by
 unfold outOK at h
 split at h
 ·right
  refine ⟨?_, rfl, ?_⟩
  ·cases v <;> rfl
  ·cases v <;> rfl
 ·rename_i p o n q o' n'
  left
  obtain ⟨rfl, rfl, rfl, h⟩ := h
  split at h
  ·rename_i g es xs es' ys h1 h2
   obtain ⟨rfl, h3, rfl, rfl⟩ := h
   exact ⟨p, q.r, _, rfl, rfl, h2, ⟨xs, h1, by rw [List.length_take, Nat.min_eq_left h3]⟩, by simp [outKeys, pieceKeys]⟩
  ·exact h.elim
 ·rename_i p q
  left
  split at h
  ·rename_i g kk es kk' es' h1 h2
   obtain ⟨rfl, rfl, rfl⟩ := h
   exact ⟨p, q.r, _, rfl, rfl, h2, ⟨p, rfl, h1⟩, by simp [outKeys, pieceKeys]⟩
  ·exact h.elim
 ·rename_i p i j q i' j'
  left
  obtain ⟨rfl, rfl, rfl, rfl, h⟩ := h
  split at h
  ·rename_i a h2
   obtain ⟨g1, g2⟩ := memOut_piece h
   refine ⟨p, q.r, a, rfl, rfl, h2, g1, ?_⟩
   have := kept_keys1 (rows := rows) p.r a
   rw [g2] at this
   simp only [outKeys, List.getD_eq_getElem?_getD, h2, Option.getD_some]
   rw [← this]
   rfl
  ·exact h.elim
 ·rename_i cs ds
  exact .inr ⟨rfl, rfl, rfl⟩
 ·right
  have hc := cellOut_clean h
  revert hc
  cases o <;> intro hc <;> first | (simp [cleanCell] at hc; done) | exact ⟨by cases v <;> rfl, rfl, by cases v <;> rfl⟩
end
end Go.AL
end
section
namespace Go.AL
section
variable {rows : Rows} {new : List PA}
theorem outsOK_len : ∀ {vs os : List AV}, outsOK rows new vs os → vs.length = os.length
 | [], [], _ => rfl
 | _ :: _, _ :: _, h => by simp [outsOK_len h.2]
 | [], _ :: _, h => h.elim
 | _ :: _, [], h => h.elim
theorem outsOK_at : ∀ {vs os : List AV}, outsOK rows new vs os → ∀ {t : Nat} {v o : AV}, vs[t]? = some v → os[t]? = some o → outOK rows new v o
 | v :: vs, o :: os, h, 0, _, _, h1, h2 => by simp at h1 h2; subst h1 h2; exact h.1
 | v :: vs, o :: os, h, t + 1, _, _, h1, h2 => outsOK_at h.2 (t := t) (by simpa using h1) (by simpa using h2)
 | [], _, _, _, _, _, h1, _ => by simp at h1
 | _ :: _, [], h, _, _, _, _, _ => h.elim
theorem range'_cons_inv {k m q : Nat} {l : List Nat} (h : q :: l = List.range' k m) : ∃ m', m = m' + 1 ∧ q = k ∧ l = List.range' (k + 1) m' := by
 cases m with
 | zero => simp at h
 | succ m' =>
  rw [List.range'_succ] at h
  injection h with h1 h2
  exact ⟨m', rfl, h1, h2⟩
theorem new_at : ∀ {vs os : List AV} {k m : Nat}, outsOK rows new vs os → outIdx os = List.range' k m →
  (newS vs os).length = m ∧ (∀ j s, (newS vs os)[j]? = some s → ∃ p a, s = some p ∧ new[k + j]? = some a ∧ PieceOK rows (some p) a) ∧
  ((newS vs os).zip (new.drop k)).flatMap (fun p => pieceKeys rows p.1 p.2) = outKeys rows new vs os ∧
  (∀ (t : Nat) (v o : AV) (p : Pl) (q : Nat), vs[t]? = some v → os[t]? = some o → hpair v o = some (p, q) → k ≤ q ∧ (newS vs os)[q - k]? = some (some p)) ∧
  (∀ j, j < m → ∃ (t : Nat) (v o : AV) (p : Pl), vs[t]? = some v ∧ os[t]? = some o ∧ hpair v o = some (p, k + j) ∧ (newS vs os)[j]? = some (some p))
 | [], [], k, m, _, h => by
  have : m = 0 := by cases m <;> simp [outIdx] at h ⊢
  subst this
  exact ⟨rfl, by simp [newS], by simp [newS, outKeys], by simp, fun j hj => by omega⟩
 | v :: vs, o :: os, k, m, h, hi => by
  rcases outOK_pair h.1 vs os with ⟨p, q, a, e1, e2, e3, e4, e5⟩ | ⟨e1, e2, e3⟩
  ·rw [e2] at hi
   obtain ⟨m', rfl, rfl, hi⟩ := range'_cons_inv hi
   obtain ⟨i1, i2, i3, i4, i5⟩ := new_at h.2 hi
   have es : newS (v :: vs) (o :: os) = some p :: newS vs os := by simp [newS, e1]
   rw [es]
   refine ⟨by simp [i1], ?_, ?_, ?_, ?_⟩
   ·intro j s hj
    cases j with
    | zero => simp at hj; subst hj; exact ⟨p, a, rfl, by simpa using e3, e4⟩
    | succ j =>
     obtain ⟨p', a', g1, g2, g3⟩ := i2 j s (by simpa using hj)
     exact ⟨p', a', g1, by rw [show q + (j + 1) = q + 1 + j by omega]; exact g2, g3⟩
   ·have hd : new.drop q = a :: new.drop (q + 1) := by
     have hlt := (List.getElem?_eq_some_iff.1 e3).1
     rw [List.drop_eq_getElem_cons hlt, (List.getElem?_eq_some_iff.1 e3).2]
    rw [hd, List.zip_cons_cons, List.flatMap_cons, i3, e5]
   ·intro t v' o' p' q' h1 h2 h3
    cases t with
    | zero =>
     simp at h1 h2; subst h1 h2
     rw [e1] at h3
     obtain ⟨rfl, rfl⟩ := by simpa using h3
     exact ⟨Nat.le_refl _, by simp⟩
    | succ t =>
     obtain ⟨g1, g2⟩ := i4 t v' o' p' q' (by simpa using h1) (by simpa using h2) h3
     refine ⟨by omega, ?_⟩
     rw [show q' - q = q' - (q + 1) + 1 by omega]
     simpa using g2
   ·intro j hj
    cases j with
    | zero => exact ⟨0, v, o, p, rfl, rfl, e1, rfl⟩
    | succ j =>
     obtain ⟨t, v', o', p', g1, g2, g3, g4⟩ := i5 j (by omega)
     exact ⟨t + 1, v', o', p', by simpa using g1, by simpa using g2, by rw [g3]; congr 2; omega, by simpa using g4⟩
  ·rw [e2] at hi
   obtain ⟨i1, i2, i3, i4, i5⟩ := new_at h.2 hi
   have es : newS (v :: vs) (o :: os) = newS vs os := by simp [newS, e1]
   rw [es, e3]
   refine ⟨i1, i2, i3, ?_, ?_⟩
   ·intro t v' o' p' q' h1 h2 h3
    cases t with
    | zero => simp at h1 h2; subst h1 h2; rw [e1] at h3; cases h3
    | succ t => exact i4 t v' o' p' q' (by simpa using h1) (by simpa using h2) h3
   ·intro j hj
    obtain ⟨t, v', o', p', g1, g2, g3, g4⟩ := i5 j hj
    exact ⟨t + 1, v', o', p', by simpa using g1, by simpa using g2, g3, g4⟩
 | [], _ :: _, _, _, h, _ => h.elim
 | _ :: _, [], _, _, h, _ => h.elim

theorem cellsOut_clean : ∀ {xs ys : List AV}, cellsOut rows xs ys → cleanL ys = true
 | [], [], _ => rfl
 | _ :: _, _ :: _, h => by simp [cleanL, cellOut_clean h.1, cellsOut_clean h.2]
 | [], _ :: _, h => h.elim
 | _ :: _, [], h => h.elim
theorem clean_nst {y : AV} (h : cleanCell y = true) : nstOrClean y = true := by
 cases y <;> first | rfl | (simp [cleanCell] at h)
theorem packOut_clean {subs : List (Nat × Body)} : ∀ {j : Nat} {xs ys : List AV}, packOut rows subs j xs ys → ∀ y ∈ ys, nstOrClean y = true := by
 intro j xs ys
 fun_induction packOut rows subs j xs ys with
 | case1 => intro _ y hy; cases hy
 | case2 j p o n xs ys ih => intro h y hy; cases hy with
  | head => rfl
  | tail _ hy => exact ih h.2 y hy
 | case3 j p xs ys ih => intro h y hy; cases hy with
  | head => rfl
  | tail _ hy => exact ih h.2 y hy
 | case4 j x xs y ys h1 h2 ih => intro h y' hy; cases hy with
  | head => exact clean_nst (cellOut_clean h.1)
  | tail _ hy => exact ih h.2 y' hy
 | case5 => intro h; exact h.elim
theorem memOut_clean {r g : Nat} {a : PA} (h : memOut rows r g a) : CleanPA a := by
 unfold memOut at h
 split at h
 ·exact packOut_clean h.2.2.1
 ·exact trivial
 ·exact trivial
 ·exact h.elim
theorem outOK_out {v o : AV} (h : outOK rows new v o) : OutCell new.length o := by
 unfold outOK at h
 split at h
 ·exact rfl
 ·obtain ⟨h1, h2, h3, h4⟩ := h
  split at h4
  ·rename_i e; exact ⟨(List.getElem?_eq_some_iff.1 e).1, h2⟩
  ·exact h4.elim
 ·split at h
  ·rename_i e; exact (List.getElem?_eq_some_iff.1 e).1
  ·exact h.elim
 ·obtain ⟨h1, h2, h3, h4, h5⟩ := h
  split at h5
  ·rename_i e; exact ⟨(List.getElem?_eq_some_iff.1 e).1, h3, h4⟩
  ·exact h5.elim
 ·rcases h with ⟨rfl, h⟩ | h
  ·exact h
  ·exact cellsOut_clean h
 ·have hc := cellOut_clean h
  revert hc
  cases o <;> intro hc <;> first | exact hc | (simp [cleanCell] at hc)
end

section
variable {N PO : Nat → Prop} {w1 : Base} {w : World} {env : Env} {ρ : Rows} {Φ : Nat → Loc} {a : Act}
variable {P : Program} {C : FuncId → List PA → CRes → Prop}
theorem memOut_shape {r g : Nat} {a : PA} {i : Nat} (h : memOut ρ r g a) : ∃ row rowx, lget ρ r = some row ∧ topRow i a = some rowx ∧ sameShape row.body rowx.body ∧ row.box = rowx.box ∧ row.gen = g := by
 unfold memOut at h
 split at h
 ·rename_i h0; obtain ⟨rfl, rfl, h1, h2⟩ := h; exact ⟨_, _, h0, rfl, rfl, rfl, rfl⟩
 ·rename_i h0; obtain ⟨rfl, rfl, rfl⟩ := h; exact ⟨_, _, h0, rfl, rfl, rfl, rfl⟩
 ·rename_i h0; obtain ⟨rfl, rfl, rfl⟩ := h; exact ⟨_, _, h0, rfl, rfl, rfl, rfl⟩
 ·exact h.elim
theorem sameShape_trans {x y z : Body} (h : sameShape x y) (h' : sameShape y z) : sameShape x z := by
 cases x <;> cases y <;> cases z <;> simp_all [sameShape]
theorem zip_append_left {α β : Type} : ∀ {l l' : List α} {m m' : List β}, l.length = m.length → (l ++ l').zip (m ++ m') = l.zip m ++ l'.zip m'
 | [], _, [], _, _ => rfl
 | _ :: l, _, _ :: m, _, h => by simp [zip_append_left (l := l) (m := m) (by simpa using h)]
 | [], _, _ :: _, _, h => by simp at h
 | _ :: _, _, [], _, h => by simp at h
theorem argData_mem : ∀ {l : List PA} {i j : Nat} {es : Nat} {y x : AV} {subs : List (Nat × Body)} {g es' : Nat} {ow : Bool} {r : Nat}, l[j]? = some (.ptr es y subs) → lget ρ (i + j) = some ⟨g, ow, true, .cells es' [x]⟩ → r ∈ cellKeys (cellsOf x) (cellsOf y) → r ∈ argData ρ i l
 | a :: l, i, 0, es, y, x, subs, g, es', ow, r, h1, h2, h3 => by
  simp at h1; subst h1
  simp only [Nat.add_zero] at h2
  simp only [argData, h2]
  exact List.mem_append.2 (.inl h3)
 | a :: l, i, j + 1, es, y, x, subs, g, es', ow, r, h1, h2, h3 => by
  have := argData_mem (l := l) (i := i + 1) (j := j) (by simpa using h1) (by rw [← h2]; congr 1; omega) h3
  cases a <;> simp only [argData, List.mem_append] <;> first | exact this | exact .inr this
 | [], _, _, _, _, _, _, _, _, _, _, h1, _, _ => by simp at h1
theorem dataKeys_tail {new : List PA} {v o : AV} {vs os : List AV} {r : Nat} (h : r ∈ dataKeys ρ new vs os) : r ∈ dataKeys ρ new (v :: vs) (o :: os) := by
 cases v <;> cases o <;> simp only [dataKeys, List.mem_cons, List.mem_append] <;> first | exact h | exact .inr h
theorem dataKeys_at {new : List PA} : ∀ {vs os : List AV} {t : Nat} {v o : AV} {r : Nat}, vs[t]? = some v → os[t]? = some o → r ∈ dataKeys ρ new [v] [o] → r ∈ dataKeys ρ new vs os
 | v :: vs, o :: os, 0, _, _, r, h1, h2, h3 => by
  simp at h1 h2; subst h1 h2
  cases v <;> cases o <;> simp only [dataKeys, List.mem_cons, List.mem_append, List.not_mem_nil, or_false, false_or] at h3 ⊢ <;> first | exact h3.elim | exact .inl h3
 | v :: vs, o :: os, t + 1, _, _, r, h1, h2, h3 => dataKeys_tail (dataKeys_at (t := t) (by simpa using h1) (by simpa using h2) h3)
 | [], _, _, _, _, _, h1, _, _ => by simp at h1
 | _ :: _, [], _, _, _, _, _, h2, _ => by simp at h2
theorem exit_sound {as : List PA} {r : CRes} {fn : Func} (h : Core N PO w1 ⟨env, ρ⟩ a.val w Φ) (hr0 : w1.rows0 = (entry as).rows) (hM : as.length + r.new.length ≤ M) (hx : exitOK C P fn as r ⟨env, ρ⟩) :
  ∃ v, (results fn a.tmps).run P w = .ok v w ∧ ExitR N PO w1 as r v w := by
 unfold exitOK at hx
 obtain ⟨vs, us, rs', rr', ⟨ho, ha, hi, hnd, hdj⟩, hv, hrun⟩ := resVals_sound (P := P) h hx
 refine ⟨retVal us, run_results fn hrun, ?_⟩
 generalize hos : outList r.val vs.length = os at ho hi hnd hdj
 have hlen : r.args.length = as.length := argsOK_len ha
 rw [List.range_eq_range'] at hi
 obtain ⟨n1, n2, n3, n4, n5⟩ := new_at ho hi
 have hL : (r.args ++ r.new).length ≤ M := by rw [List.length_append, hlen]; exact hM
 -- where the pieces lie
 have hss : (argS 0 r.args ++ newS vs os).length = (r.args ++ r.new).length := by rw [List.length_append, List.length_append, argS_len, n1]
 have hsa : (argS 0 r.args).length = as.length := by rw [argS_len, hlen]
 have hok : ∀ (i : Nat) (b : PA) (s : Option Pl), (r.args ++ r.new)[i]? = some b → (argS 0 r.args ++ newS vs os)[i]? = some s → PieceOK ρ s b := by
  intro i b s h1 h2
  by_cases hlt : i < as.length
  ·rw [List.getElem?_append_left (by omega)] at h1
   rw [List.getElem?_append_left (by omega), argS_at, h1] at h2
   obtain rfl := by simpa using h2
   have := (argsOK_at ha h1).1
   simpa using this
  ·rw [List.getElem?_append_right (by omega)] at h1
   rw [List.getElem?_append_right (by omega)] at h2
   obtain ⟨p, b', rfl, g1, g2⟩ := n2 _ _ h2
   rw [Nat.zero_add, hsa, ← hlen, h1] at g1
   obtain rfl := Option.some.inj g1
   exact g2
 have hkeys : ((argS 0 r.args ++ newS vs os).zip (r.args ++ r.new)).flatMap (fun p => pieceKeys ρ p.1 p.2) = keptKeys ρ 0 r.args ++ outKeys ρ r.new vs os := by
  rw [zip_append_left (argS_len _ _), List.flatMap_append, kept_keys]
  exact congrArg _ (by simpa using n3)
 have himg : ∀ {k : Nat}, Img (entry (r.args ++ r.new)).rows (kapOf ρ (argS 0 r.args ++ newS vs os)) k → k ∈ outKeys ρ r.new vs os ++ keptKeys ρ 0 r.args := by
  intro k hk
  have := img_keys hss hL hok hk
  rw [hkeys] at this
  rw [List.mem_append] at this ⊢
  exact this.symm
 have hout : ∀ {k : Nat}, k ∈ dataKeys ρ r.new vs os ++ argData ρ 0 r.args → True ∧ ¬ Img (entry (r.args ++ r.new)).rows (kapOf ρ (argS 0 r.args ++ newS vs os)) k :=
  fun hk => ⟨trivial, fun hi => disjB_spec hdj _ hk (himg hi)⟩
 have hp : Packed True ρ (entry (r.args ++ r.new)).rows (kapOf ρ (argS 0 r.args ++ newS vs os)) := by
  refine packed_of hss hL hok ?_ ?_
  ·rw [hkeys]
   rw [List.nodup_append] at hnd ⊢
   exact ⟨hnd.2.1, hnd.1, fun x hx y hy e => hnd.2.2 y hy x hx e.symm⟩
  ·intro i es y subs p x h1 h2 h3 k hk
   refine .inr (hout (List.mem_append.2 ?_))
   by_cases hlt : i < as.length
   ·right
    rw [List.getElem?_append_left (by omega)] at h1
    rw [List.getElem?_append_left (by omega), argS_at, h1] at h2
    simp only [Option.map_some, arg1, Option.some.injEq, Nat.zero_add] at h2
    subst h2
    exact argData_mem h1 (by rw [Nat.zero_add]; exact h3) hk
   ·left
    have hlt2 : i < (r.args ++ r.new).length := (List.getElem?_eq_some_iff.1 h1).1
    rw [List.length_append, hlen] at hlt2
    rw [List.getElem?_append_right (by omega)] at h1
    rw [List.getElem?_append_right (by omega), hsa] at h2
    obtain ⟨t, v, o, p', g1, g2, g3, g4⟩ := n5 (i - as.length) (by omega)
    rw [h2] at g4
    obtain rfl := by simpa using g4
    refine dataKeys_at g1 g2 ?_
    have hoo := outsOK_at ho g1 g2
    rw [hlen] at h1
    have hq : r.new[0 + (i - as.length)]? = some (.ptr es y subs) := by rw [Nat.zero_add]; exact h1
    cases v <;> cases o <;> simp only [hpair, Option.some.injEq, Prod.mk.injEq, reduceCtorEq] at g3
    ·rename_i p0 i0 j0 q0 i1 j1
     obtain ⟨rfl, g3⟩ := g3
     simp only [dataKeys, g3, hq, h3, List.append_nil]
     exact hk
    ·rename_i p0 i0 j0 q0 i1 j1
     obtain ⟨rfl, g3⟩ := g3
     exfalso
     unfold outOK at hoo
     simp only [g3, hq] at hoo
     obtain ⟨_, _, _, hoo⟩ := hoo
     split at hoo
     ·rename_i e1 e2; cases e2
     ·exact hoo
    ·rename_i p0 q0
     obtain ⟨rfl, g3⟩ := g3
     exfalso
     unfold outOK at hoo
     simp only [g3, hq] at hoo
     split at hoo
     ·rename_i e1 e2; cases e2
     ·exact hoo
 have hN : ∀ b, N b → Av N ρ Φ b := fun b hb => .inl hb
 have hmine : ∀ k row b o, lget ρ k = some row → row.own = true → Φ k = some (b, o) → Img (entry (r.args ++ r.new)).rows (kapOf ρ (argS 0 r.args ++ newS vs os)) k → ¬ N b := fun k row b o h1 h2 h3 _ => (h.mine k row b o h1 h2 h3).1
 have hex : True → ∀ b, N b → N b := fun _ _ hb => hb
 have hkapNew : ∀ q p, (newS vs os)[q]? = some (some p) → q < r.new.length → kapOf ρ (argS 0 r.args ++ newS vs os) (as.length + q) = some p ∧ (lget (entry (r.args ++ r.new)).rows (as.length + q)).isSome = true := by
  intro q p h1 h2
  have hlt : as.length + q < M := by rw [List.length_append, hlen] at hL; omega
  have hs : (argS 0 r.args ++ newS vs os)[as.length + q]? = some (some p) := by
   rw [List.getElem?_append_right (by omega), hsa, Nat.add_sub_cancel_left]; exact h1
  refine ⟨by rw [kap_top hlt, hs]; rfl, ?_⟩
  have ha' : (r.args ++ r.new)[as.length + q]? = some r.new[q] := by
   rw [List.getElem?_append_right (by omega), hlen, Nat.add_sub_cancel_left, List.getElem?_eq_getElem h2]
  rw [entry_top hL hlt, ha', Option.bind_some]
  have hpc := hok _ _ _ ha' hs
  generalize r.new[q] = b at hpc
  cases b with
  | data v => cases hpc
  | lost => cases hpc
  | ptr es y subs => rfl
  | slc b => rfl
  | mp b => rfl
 refine ⟨hlen, ?_, ?_, { w1 with loc := locTo (entry (r.args ++ r.new)).rows (kapOf ρ (argS 0 r.args ++ newS vs os)) Φ, rows0 := (entry (r.args ++ r.new)).rows }, locTo (entry (r.args ++ r.new)).rows (kapOf ρ (argS 0 r.args ++ newS vs os)) Φ, rfl, ?_, ?_⟩
 ·intro b hb
  rcases List.mem_append.1 hb with hb | hb
  ·obtain ⟨j, hj⟩ := List.getElem?_of_mem hb
   rcases (argsOK_at ha hj).2 with e | e
   ·cases b <;> simp [arg1] at e <;> exact trivial
   ·exact memOut_clean e
  ·obtain ⟨j, hj⟩ := List.getElem?_of_mem hb
   have hjl := (List.getElem?_eq_some_iff.1 hj).1
   obtain ⟨t, v, o, p, g1, g2, g3, g4⟩ := n5 j hjl
   obtain ⟨p', b', e1, e2, e3⟩ := n2 j _ g4
   rw [Nat.zero_add, hj] at e2
   obtain rfl := Option.some.inj e2
   obtain rfl := by simpa using e1
   cases b with
   | ptr es y subs =>
    obtain ⟨_, x, _, _, _, k4⟩ := e3
    exact packOut_clean k4
   | _ => exact trivial
 ·have hall : ∀ o ∈ os, OutCell r.new.length o := by
   intro o hom
   obtain ⟨t, ht⟩ := List.getElem?_of_mem hom
   have htl := (List.getElem?_eq_some_iff.1 ht).1
   rw [← outsOK_len ho] at htl
   exact outOK_out (outsOK_at ho (List.getElem?_eq_getElem htl) ht)
  unfold outList at hos
  split at hos
  ·rename_i os' n' hval
   rw [hval]
   split at hos
   ·subst hos
    exact (hall _ (.head _)).elim
   ·subst hos
    exact hall
  ·rename_i n' hn'
   subst hos
   have := hall _ (.head _)
   cases hq : r.val with
   | tup cs => exact absurd hq (hn' cs)
   | _ => rw [hq] at this; exact this
 ·refine Core.pack h hp hN hmine hex h.os h.tape h.output h.size h.old h.nlt h.grows rfl rfl (fun k row b o h1 h2 h3 _ => (h.mine k row b o h1 h2 h3).2) ?_
  intro t
  cases t with
  | succ t => exact trivial
  | zero =>
   show R N (entry (r.args ++ r.new)).rows _ w (rekeyAll (exitPls as.length r.new.length) r.val) (retVal us)
   have hpl : ∀ q, q < r.new.length → (exitPls as.length r.new.length).getD q ⟨0, 0⟩ = ⟨as.length + q, 0⟩ := by
    intro q hq
    simp [exitPls, List.getD, hq]
   have hul := hv.length
   have one : ∀ {t : Nat} {v o : AV} {u : Value}, vs[t]? = some v → os[t]? = some o → us[t]? = some u → R N (entry (r.args ++ r.new)).rows (locTo (entry (r.args ++ r.new)).rows (kapOf ρ (argS 0 r.args ++ newS vs os)) Φ) w (rekey (exitPls as.length r.new.length) o) u := by
    intro t v o u h1 h2 h3
    have hu : R N ρ Φ w v u := by
     obtain ⟨u', g1, g2⟩ := hv.at t v h1
     rw [h3] at g1
     obtain rfl := Option.some.inj g1
     exact g2
    have hoo := outsOK_at ho h1 h2
    have hcell := outOK_out hoo
    have hpr := n4 t v o
    have hdk : ∀ r', r' ∈ dataKeys ρ r.new [v] [o] → r' ∈ dataKeys ρ r.new vs os := fun r' hr' => dataKeys_at h1 h2 hr'
    unfold outOK at hoo
    split at hoo
    ·exact trivial
    ·rename_i p o1 n q o' n'
     obtain ⟨rfl, rfl, rfl, hoo⟩ := hoo
     obtain ⟨_, g2⟩ := hpr p q.r h1 h2 rfl
     obtain ⟨k1, k2⟩ := hkapNew q.r p (by simpa using g2) hcell.1
     simp only [rekey, hpl q.r hcell.1]
     exact pack_hs hp k2 k1 hu
    ·rename_i p q
     have hcell : q.r < r.new.length := hcell
     obtain ⟨_, g2⟩ := hpr p q.r h1 h2 rfl
     obtain ⟨k1, k2⟩ := hkapNew q.r p (by simpa using g2) hcell
     simp only [rekey, hpl q.r hcell]
     exact pack_hm (w := w) hp k2 k1 hu
    ·rename_i p i j q i' j'
     obtain ⟨rfl, rfl, rfl, rfl, hoo⟩ := hoo
     obtain ⟨_, g2⟩ := hpr p q.r h1 h2 rfl
     obtain ⟨k1, k2⟩ := hkapNew q.r p (by simpa using g2) hcell.1
     simp only [rekey, hpl q.r hcell.1]
     exact pack_hp (w := w) hp k2 k1 hu
    ·rename_i cs ds
     obtain ⟨xs, rfl, e1, e2⟩ := hu
     refine ⟨xs, rfl, e1, ?_⟩
     have hks : ∀ {cs ds : List AV} {xs : List Value}, RL N ρ Φ w cs xs → cellsOut ρ cs ds → (∀ r' ∈ cellKeys cs ds, r' ∈ dataKeys ρ r.new vs os) → RL N (entry (r.args ++ r.new)).rows (locTo (entry (r.args ++ r.new)).rows (kapOf ρ (argS 0 r.args ++ newS vs os)) Φ) w ds xs := by
      intro cs
      induction cs with
      | nil => intro ds xs g1 g2 g3; cases ds with
       | nil => cases xs with
        | nil => exact trivial
        | cons _ _ => exact g1.elim
       | cons _ _ => exact g2.elim
      | cons c cs ih => intro ds xs g1 g2 g3; cases ds with
       | nil => exact g2.elim
       | cons d ds => cases xs with
        | nil => exact g1.elim
        | cons x xs =>
         refine ⟨pack_out h hp hN hmine hex g1.1 g2.1 ?_, ih g1.2 g2.2 (fun r' hr' => g3 r' ?_)⟩
         ·rintro p o n es ys rfl rfl
          exact .inr (hout (List.mem_append.2 (.inl (g3 _ (.head _)))))
         ·rcases cellKeys_cons c d cs ds with e | ⟨q, e⟩ <;> rw [e]
          ·exact hr'
          ·exact .tail _ hr'
     rcases hoo with ⟨rfl, hcl⟩ | hoo
     ·have hcd : ∀ {cs : List AV} {xs : List Value}, RL N ρ Φ w cs xs → cleanL cs = true → RL N (entry (r.args ++ r.new)).rows (locTo (entry (r.args ++ r.new)).rows (kapOf ρ (argS 0 r.args ++ newS vs os)) Φ) w cs xs := by
       intro cs
       induction cs with
       | nil => intro xs g1 g2; cases xs with
        | nil => exact trivial
        | cons _ _ => exact g1.elim
       | cons c cs ih => intro xs g1 g2; cases xs with
        | nil => exact g1.elim
        | cons x xs =>
         simp only [cleanL, Bool.and_eq_true] at g2
         refine ⟨?_, ih g1.2 g2.2⟩
         have g1 := g1.1
         have g2 := g2.1
         have toN : Rep w (Av N ρ Φ) noH c x := by
          cases c <;> first | (simp [cleanCell] at g2; done) | (simpa only [Rep] using g1)
         exact pack_rep h hp hN hmine hex toN
      exact hcd e2 hcl
     ·exact hks e2 hoo (fun r' hr' => hdk r' (by simp only [dataKeys, List.append_nil]; exact hr'))
    ·have hrk : rekey (exitPls as.length r.new.length) o = o := by
      have hc := cellOut_clean hoo
      cases o <;> first | rfl | (simp [cleanCell] at hc)
     rw [hrk]
     refine pack_out h hp hN hmine hex hu hoo ?_
     rintro p o n es ys rfl rfl
     exact .inr (hout (List.mem_append.2 (.inl (hdk _ (by simp [dataKeys])))))
   have hlo := outsOK_len ho
   unfold outList at hos
   split at hos
   ·rename_i os' n' hval
    split at hos
    ·exfalso
     rename_i h1
     subst hos
     have hv1 : vs.length = 1 := by simpa using hlo
     have := outOK_out (outsOK_at ho (t := 0) (List.getElem?_eq_getElem (by omega)) rfl)
     exact this
    ·rename_i hne
     subst hos
     rw [hval] at *
     have hret : retVal us = .tuple us.toArray := by
      unfold retVal
      split
      ·rename_i u; simp at hul; omega
      ·rfl
     rw [hret]
     refine ⟨us.toArray, rfl, RepL.of_at (by simp; omega) ?_⟩
     intro t c u h1 h2
     simp only [List.getElem?_map, Option.map_eq_some_iff] at h1
     obtain ⟨o, h1, rfl⟩ := h1
     have htl : t < vs.length := by rw [hlo]; exact (List.getElem?_eq_some_iff.1 h1).1
     exact one (List.getElem?_eq_getElem htl) h1 (by simpa using h2)
   ·rename_i n' hn'
    subst hos
    have hv1 : vs.length = 1 := by simpa using hlo
    have hu1 : us.length = 1 := by omega
    obtain ⟨u, rfl⟩ : ∃ u, us = [u] := by
     match us, hu1 with
     | [u], _ => exact ⟨u, rfl⟩
    have e1 : rekeyAll (exitPls as.length r.new.length) r.val = rekey (exitPls as.length r.new.length) r.val := by
     cases hq : r.val with
     | tup cs => exact absurd hq (hn' cs)
     | _ => rfl
    rw [e1]
    exact one (t := 0) (List.getElem?_eq_getElem (by omega)) rfl rfl
 ·intro i hi rowx hrx
  have hiM : i < M := by omega
  rw [entry_top hL hiM, List.getElem?_append_left (by omega)] at hrx
  have hil : i < r.args.length := by omega
  rw [List.getElem?_eq_getElem hil, Option.bind_some] at hrx
  have hat := List.getElem?_eq_getElem hil
  generalize r.args[i] = b at hrx hat
  obtain ⟨_, hmo⟩ := argsOK_at ha hat
  rw [Nat.zero_add] at hmo
  rcases hmo with e | hmo
  ·cases b <;> simp [arg1] at e <;> cases hrx
  ·obtain ⟨row, rowx', s1, s2, s3, s4, s5⟩ := memOut_shape (i := i) hmo
   rw [hrx] at s2
   obtain rfl := Option.some.inj s2
   obtain ⟨t1, row0, t2, t3, t4⟩ := h.gen0 i row s1 s5
   have hkap : kapOf ρ (argS 0 r.args ++ newS vs os) i = some ⟨i, 0⟩ := by
    rw [kap_top hiM, List.getElem?_append_left (by omega), argS_at, hat, Nat.zero_add, Option.map_some, (memOut_piece hmo).2]
    rfl
   refine ⟨?_, row0, by rw [← hr0]; exact t2, sameShape_trans t3 s3, t4.trans s4⟩
   rw [locTo_eq (by rw [entry_top hL hiM, List.getElem?_append_left (by omega), hat, Option.bind_some, hrx]; rfl) hkap]
   exact t1
end
end Go.AL
end
