/- Expected values of diagrams that are restricted (plain laws). Conditions stand in each theorem. -/
import Derived.Test.YteipiejlljnclaaGreatDoorRKa
set_option linter.unusedVariables false
set_option linter.unusedSimpArgs false
set_option maxRecDepth 10000
namespace Go.Proofs.YteipiejlljnclaaGreatDoor
open Go Go.AL
theorem wt_at {ws : List (List (List Tm))} {s k : Nat} (h : k < (ws.getD s []).length) : wt ws s k = (ws.getD s [])[k] := by
 unfold wt
 rw [List.getD_eq_getElem?_getD (l := ws.getD s []), List.getElem?_eq_getElem h]; rfl
theorem evs_all {ws : List (List (List Tm))} {h : Int → Rat} {F : Mo → Rat} {s : Nat} {E : (Mo → Rat) → Rat} {ks : List Tr} : ∀ {k : Nat}, (ws.getD s []).length = k + ks.length → (∀ t ∈ ks, ∀ G, ev (wt ws) h t G = E G) → evs (wt ws) h s k ks F = Ls (fun a => E fun b => F (a.add b)) ((ws.getD s []).drop k) := by
 induction ks with
 | nil =>
  intro k hl _
  rw [List.drop_of_length_le (by rw [hl]; simp), evs, Ls]
 | cons t ks ih =>
  intro k hl ht
  rw [List.length_cons] at hl
  rw [evs, ih (k := k + 1) (by omega) fun t h => ht t (.tail _ h), List.drop_eq_getElem_cons (i := k) (l := ws.getD s []) (by omega), Ls, wt_at (by omega)]
  simp only [ht t (.head _)]
theorem ev_mkbr {ws : List (List (List Tm))} (hw : WOK ws) {h : Int → Rat} {s : Nat} {ks : List Tr} (hs : s < ws.length) (hk : ks.length = wid s) (F : Mo → Rat) : ev (wt ws) h (mkbr s ks) F = evs (wt ws) h s 0 ks F := by
 unfold mkbr
 split
 ·rename_i hsame
  have h2 := (wid_bd s).1
  cases ks with
  | nil => simp at hk; omega
  | cons k ks =>
   have hall : ∀ t ∈ k :: ks, ∀ G, ev (wt ws) h t G = ev (wt ws) h k G := by
    intro t ht G
    rcases List.mem_cons.1 ht with rfl | ht
    ·rfl
    ·rw [hsame t ht]
   rw [evs_all (E := ev (wt ws) h k) (by rw [hw.len s hs, hk]; omega) hall, List.drop_zero, hw.one s hs, pone_L]
   simp only [Mo.zero_add, List.headD_cons]
 ·rw [ev]
theorem evs_tot (W : Nat → Nat → List Tm) (h : Int → Rat) (s : Nat) (F : Mo → Rat) (ks : List Tr) : evs W h s 0 ks F = tot (fun o => L (W s o) fun a => ev W h (gt ks o) fun b => F (a.add b)) ks.length := by
 have key : ∀ n, n ≤ ks.length → evs W h s 0 (ks.take n) F = tot (fun o => L (W s o) fun a => ev W h (gt ks o) fun b => F (a.add b)) n := by
  intro n
  induction n with
  | zero => intro _; rw [List.take_zero, evs, tot]
  | succ n ih =>
   intro hn
   have hl : (ks.take n).length = n := by rw [List.length_take]; omega
   rw [take_gt (by omega), evs_snoc, ih (by omega), tot, hl, Nat.zero_add]
 have := key ks.length (Nat.le_refl _)
 rwa [List.take_length] at this
theorem tot_Ls {ws : List (List (List Tm))} {s n : Nat} (G : Mo → Rat) (h : (ws.getD s []).length = n) : tot (fun o => L (wt ws s o) G) n = Ls G (ws.getD s []) := by
 have key : ∀ n, n ≤ (ws.getD s []).length → tot (fun o => L (wt ws s o) G) n = Ls G ((ws.getD s []).take n) := by
  intro n
  induction n with
  | zero => intro _; rw [List.take_zero, Ls, tot]
  | succ n ih =>
   intro hn
   rw [tot, ih (by omega), List.take_succ_eq_append_getElem (by omega), Ls_append, Ls, Ls, Rat.add_zero, wt_at (by omega)]
 have := key n (by omega)
 rwa [List.take_of_length_le (by omega)] at this
theorem tot_mul (c : Rat) (f : Nat → Rat) : ∀ n, tot (fun j => c * f j) n = c * tot f n
 | 0 => by rw [tot, tot, Rat.mul_zero]
 | n + 1 => by rw [tot, tot, tot_mul c f n, Rat.mul_add]
mutual
noncomputable def rs (site o : Nat) : Tr → Tr
 | .lf v => .lf v
 | .br s ks => if s = site then gt (rss site o ks) o else mkbr s (rss site o ks)
noncomputable def rss (site o : Nat) : List Tr → List Tr
 | [] => []
 | k :: ks => rs site o k :: rss site o ks
end
end Go.Proofs.YteipiejlljnclaaGreatDoor
