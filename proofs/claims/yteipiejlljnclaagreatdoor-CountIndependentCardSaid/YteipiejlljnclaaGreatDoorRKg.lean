/- The sanity check of the law's package: diagram.Branch of two leaves, awake. Conditions stand in each. -/
import Derived.Test.YteipiejlljnclaaGreatDoorRKf
import Derived.Test.YteipiejlljnclaaGreatDoorRGh
set_option linter.unusedVariables false
set_option linter.unusedSimpArgs false
set_option maxRecDepth 10000
set_option maxHeartbeats 8000000
namespace Go.Proofs.YteipiejlljnclaaGreatDoor
open Go Go.AL
attribute [local irreducible] run opK opD callK
attribute [local go_sem] not_true_eq_false not_false_eq_true decide_false psl_len dsc_len
attribute [local simp] keep keepEnv keepRows keepAV keepPl keepBody keepElems keepElem keepCells lget inL normG mc_keep mc_keep0
def tcn : Tr := .br 0 [.lf 0, .lf 1]
theorem enum_lf (v : Int) : enum (.lf v) [] = [.lf v] := by rw [enum_of_not (by simp)]; simp [kidsOf]
theorem enum_tcn : enum tcn [] = [.lf 0, .lf 1, tcn] := by
 rw [enum_of_not (by simp)]
 show enums [.lf 0, .lf 1] [] ++ [tcn] = _
 rw [enums_cons, enums_cons, enums_nil, enum_lf, enum_of_not (by simp)]
 simp [kidsOf]
theorem tcn_same : ¬ same [Tr.lf 0, Tr.lf 1] := fun h => by
 have := h (.lf 1) (.head _)
 injection this with e
 omega
theorem wid0 : wid 0 = 2 := by decide
theorem tcn_ok : Ok wid tcn := by
 refine .br (by omega) (by rw [wid0]; rfl) (by rw [wid0]; omega) (by rw [wid0]; omega) tcn_same (fun k hk => ?_) fun k hk => .inl ?_
 ·rcases List.mem_cons.1 hk with rfl | hk
  ·exact .lf (by omega) (by omega)
  ·rw [List.mem_singleton.1 hk]; exact .lf (by omega) (by omega)
 ·rcases List.mem_cons.1 hk with rfl | hk
  ·simp [siteOf]
  ·rw [List.mem_singleton.1 hk]; simp [siteOf]
theorem tcn_sd : sd 1 tcn := by
 unfold tcn
 rw [sd, sds_iff]
 refine ⟨by omega, fun t ht => ?_⟩
 rcases List.mem_cons.1 ht with rfl | ht
 ·rw [sd]; omega
 ·rw [List.mem_singleton.1 ht, sd]; omega
theorem tcn_in (l : List Int) (params : Nat) (hp : params ≤ 2) : Rin tcn (dst l 0 params 1).1 :=
 ⟨tcn_ok, by decide, by rw [dst_len]; exact tcn_sd, dst_ok l 0 params (Nat.zero_le _) hp 1, by rw [dst_len]; omega⟩
theorem lf_ok (v : Int) (h : -16 ≤ v ∧ v ≤ 16) : Ok wid (.lf v) := .lf (by omega) (by omega)
theorem lf_sm (v : Int) (h : -16 ≤ v ∧ v ≤ 16) : SmT (.lf v) := ⟨by simp [kidsOf], by simp [siteOf], by simp only [valOf, sml]; omega⟩
theorem c_ValL (v : Int) (h : -16 ≤ v ∧ v ≤ 16) : CT 62 [.data (.agg [.sl 3 (ns [⟨-1, v, []⟩])])] { val := iv .i64 0, args := [.data (.agg [.sl 3 (ns [⟨-1, v, []⟩])])] } := by
 have := c_Validate wid (.lf v) (lf_ok v h) (by simp [Tr.sz]) fun x hx => by rw [enum_lf] at hx; rw [List.mem_singleton.1 hx]; exact lf_sm v h
 have e := dg_lf v
 unfold dg at e
 simp only [dgt, e] at this
 exact this
theorem nds_lf (v : Int) : nds [.lf v] = [⟨-1, v, []⟩] := by simp [nds, nd, siteOf, valOf, kidsOf]
theorem lf_tab (v : Int) (h : -16 ≤ v ∧ v ≤ 16) : Tab [.lf v] ∧ ∀ t ∈ [Tr.lf v], Rd t := by
 have := enum_tab (lf_ok v h) (by simp [Tr.sz])
 rwa [enum_lf] at this
theorem c_ShL (v : Int) (h : -16 ≤ v ∧ v ≤ 16) : CT 104 [.data (.sl 3 (ns [⟨-1, v, []⟩])), .mp (.map (.int .i64) [])] { val := bl true, args := [.data (.sl 3 (ns [⟨-1, v, []⟩])), .mp (.map (.int .i64) [])] } := by
 have := c_Shapes wid [.lf v] [] (lf_tab v h).1 (fun t ht => by rw [List.mem_singleton.1 ht]; exact lf_ok v h)
 have e1 : shS [] [Tr.lf v] = [] := shS_lf (E := [])
 have e2 : shE wid [] = [] := rfl
 simp only [lsd, nds_lf, e1, e2] at this
 exact this
theorem tab0 : Tab [] := ⟨Clo.nil, List.nodup_nil, by simp, by simp⟩
theorem c_Root0 : CT 105 [tpt [], .data (.agg [.sl 3 (ns [⟨-1, 0, []⟩])])] { val := iv .i64 0, args := [tpt [.lf 0], .data (.agg [.sl 3 (ns [⟨-1, 0, []⟩])])] } := by
 have := c_Root [] [.lf 0] (.lf 0) tab0 (lf_tab 0 (by omega)).1 (lf_tab 0 (by omega)).2 (by simp) (fun t ht => by rw [List.mem_singleton.1 ht]; exact lf_sm 0 (by omega)) (by simp) (by simp)
 have e : insL [] [Tr.lf 0] = [.lf 0] := by simp [insL, insT]
 have e2 : ix [Tr.lf 0] (.lf 0) = 0 := by simp [ix]
 rw [e, e2] at this
 simp only [dgt, nds_lf] at this
 exact this
theorem c_Root1 : CT 105 [tpt [.lf 0], .data (.agg [.sl 3 (ns [⟨-1, 1, []⟩])])] { val := iv .i64 1, args := [tpt [.lf 0, .lf 1], .data (.agg [.sl 3 (ns [⟨-1, 1, []⟩])])] } := by
 have := c_Root [.lf 0] [.lf 1] (.lf 1) (lf_tab 0 (by omega)).1 (lf_tab 1 (by omega)).1 (lf_tab 1 (by omega)).2 (fun t ht => by rw [List.mem_singleton.1 ht]; exact lf_sm 0 (by omega)) (fun t ht => by rw [List.mem_singleton.1 ht]; exact lf_sm 1 (by omega)) (by simp) (by simp)
 have e : insL [Tr.lf 0] [Tr.lf 1] = [.lf 0, .lf 1] := by simp [insL, insT]
 have e2 : ix [Tr.lf 0, .lf 1] (.lf 1) = 1 := by
  unfold ix
  rw [List.idxOf_cons, show (Tr.lf 0 == Tr.lf 1) = false by simp]
  simp
 rw [e, e2] at this
 simp only [dgt, nds_lf] at this
 exact this
theorem tcn_clo : Clo [Tr.lf 0, .lf 1] := by
 have h1 : Clo [Tr.lf 0] := (lf_tab 0 (by omega)).1.clo
 exact h1.snoc (t := .lf 1) (by simp [kidsOf])
theorem tcn_tab : Tab [Tr.lf 0, .lf 1, tcn] := by
 have := (enum_tab tcn_ok (by decide)).1
 rwa [enum_tcn] at this
theorem nd_tcn : nd [Tr.lf 0, .lf 1] tcn = ⟨0, 0, [0, 1]⟩ := by
 have e1 : ix [Tr.lf 0, .lf 1] (.lf 0) = 0 := by simp [ix]
 have e2 : ix [Tr.lf 0, .lf 1] (.lf 1) = 1 := by
  unfold ix
  rw [List.idxOf_cons, show (Tr.lf 0 == Tr.lf 1) = false by simp]
  simp
 show (⟨0, 0, [((ix [Tr.lf 0, .lf 1] (.lf 0) : Nat) : Int), ((ix [Tr.lf 0, .lf 1] (.lf 1) : Nat) : Int)]⟩ : Nd) = _
 rw [e1, e2]; rfl
theorem ix_tcn : ix [Tr.lf 0, .lf 1, tcn] tcn = 2 := by
 have := ix_snoc (l := [Tr.lf 0, .lf 1]) (t := tcn) (by simp [tcn])
 exact this
theorem c_Br2 : CT 65 [tpt [.lf 0, .lf 1], .data (iv .i64 0), idat [0, 1]] { val := iv .i64 2, args := [tpt [.lf 0, .lf 1, tcn], .data (iv .i64 0), idat [0, 1]] } := by
 have h := c_TBranch (nds [.lf 0, .lf 1]) 0 [0, 1] (sml_nds tcn_clo (fun t ht => by
  rcases List.mem_cons.1 ht with rfl | ht
  ·exact lf_sm 0 (by omega)
  ·rw [List.mem_singleton.1 ht]; exact lf_sm 1 (by omega)) (by simp)) sml_0 (fun x hx => by
  rcases List.mem_cons.1 hx with rfl | hx
  ·exact sml_0
  ·rw [List.mem_singleton.1 hx]; exact ⟨by omega, by omega⟩) (by simp) (by simp) (fun h => by
  have := h 1 (by simp)
  simp [gi] at this)
 obtain ⟨h1, h2⟩ := addL_nd (U := [Tr.lf 0, .lf 1]) (t := tcn) tcn_clo (fun k hk => hk)
 have e : insT [Tr.lf 0, .lf 1] tcn = [.lf 0, .lf 1, tcn] := by unfold insT; rw [if_neg (by simp [tcn])]; rfl
 rw [nd_tcn, e] at h1 h2
 rw [h1, h2, ix_tcn] at h
 exact h
theorem c_Exp2 : CT 66 [tpt [.lf 0, .lf 1, tcn], .data (iv .i64 2)] { val := .tup [dg tcn, .sc (.bool true)], args := [tpt [.lf 0, .lf 1, tcn], .data (iv .i64 2)] } := by
 have := c_Export [.lf 0, .lf 1, tcn] tcn tcn_tab (by simp) (by rw [enum_tcn]; simp) (by decide)
 rw [ix_tcn] at this
 exact this
@[go_sem] abbrev kd2 : AV := .sl 1 [.agg [.sl 3 (ns [⟨-1, 0, []⟩])], .agg [.sl 3 (ns [⟨-1, 1, []⟩])]]
theorem c_Branch2 : CT 52 [.data (iv .i64 0), .data kd2] { val := .tup [dg tcn, .sc (.int .i64 0)], args := [.data (iv .i64 0), .data kd2] } := by
 have hv0 := c_ValL 0 (by omega)
 have hv1 := c_ValL 1 (by omega)
 have hx2 := c_Exp2
 unfold dg at hx2 ⊢
 refine Ctr.intro ⟨Tryz.f52, _, Tryz.call52, Tryz.func52, fold_body (by rfl) (by kernel_rfl), (by simp [Tryz.ntmps52]), (by simp), (by kernel_rfl), ?_⟩
 refine wks ?_
 refine wk0 ?_
 refine run_loop [0, 1, 4, 34, 35, 36] [4, 10000004] (α := {i : Nat // i ≤ 2})
  (fun i => ⟨[(0, iv .i64 0), (1, kd2), (4, .hp ⟨4, 1⟩ 0 0), (34, kd2), (35, iv .i64 (2 : Nat)), (36, iv .i64 i.1)],
   [(4, ⟨1, true, true, .cells 1 [.agg [.hs ⟨10000004, 1⟩ 0 0]]⟩), (10000004, ⟨1, true, false, .cells 3 []⟩)]⟩) (fun i => 2 - i.1) ⟨0, Nat.zero_le _⟩ (by first | rfl | simp [tc, qc]) ?_
 rintro ⟨i, hi⟩
 refine wk0 ?_
 refine condK.dec (fun hlt => ?_) (fun hlt => ?_)
 ·have h2 : i = 0 ∨ i = 1 := by omega
  rcases h2 with rfl | rfl
  ·refine wk0 ?_
   refine callI (hv0) ?_
   refine wk0 ?_
   exact ⟨⟨1, by omega⟩, (by first | rfl | simp [tc, qc]), by simp only; omega⟩
  ·refine wk0 ?_
   refine callI (hv1) ?_
   refine wk0 ?_
   exact ⟨⟨2, by omega⟩, (by first | rfl | simp [tc, qc]), by simp only; omega⟩
 ·have h2 : i = 2 := by omega
  subst h2
  refine wk0 ?_
  refine callI (c_TNew) ?_
  refine wk0 ?_
  refine run_loop [0, 4, 9, 10, 11, 49, 50, 51] [4, 11, 47, 48, 10000004, 10000047, 20000047] (α := {i : Nat // i ≤ 2})
   (fun i => match i.1 with
    | 0 => ⟨[(0, iv .i64 0), (4, .hp ⟨4, 1⟩ 0 0), (9, .hp ⟨47, 1⟩ 0 0), (10, .hm ⟨48, 1⟩), (11, .hs ⟨11, 1⟩ 0 0), (49, kd2), (50, iv .i64 (2 : Nat)), (51, iv .i64 0)],
     [(4, ⟨1, true, true, .cells 1 [.agg [.hs ⟨10000004, 1⟩ 0 0]]⟩), (11, ⟨1, true, false, .cells 1 []⟩), (47, ⟨1, true, true, .cells 2 [.agg [.hs ⟨10000047, 1⟩ 0 0, .hm ⟨20000047, 1⟩]]⟩), (48, ⟨1, true, false, .map (.int .i64) []⟩), (10000004, ⟨1, true, false, .cells 3 []⟩), (10000047, ⟨1, true, false, .cells 3 (ns (nds []))⟩), (20000047, ⟨1, true, false, .map .str (entL (nds []))⟩)]⟩
    | 1 => ⟨[(0, iv .i64 0), (4, .hp ⟨4, 1⟩ 0 0), (9, .hp ⟨47, 1⟩ 0 0), (10, .hm ⟨48, 1⟩), (11, .hs ⟨11, 1⟩ 0 1), (49, kd2), (50, iv .i64 (2 : Nat)), (51, iv .i64 1)],
     [(4, ⟨1, true, true, .cells 1 [.agg [.hs ⟨10000004, 1⟩ 0 0]]⟩), (11, ⟨1, true, false, .cells 1 (ints [0])⟩), (47, ⟨1, true, true, .cells 2 [.agg [.hs ⟨10000047, 1⟩ 0 1, .hm ⟨20000047, 1⟩]]⟩), (48, ⟨1, true, false, .map (.int .i64) []⟩), (10000004, ⟨1, true, false, .cells 3 []⟩), (10000047, ⟨1, true, false, .cells 3 (ns (nds [.lf 0]))⟩), (20000047, ⟨1, true, false, .map .str (entL (nds [.lf 0]))⟩)]⟩
    | _ => ⟨[(0, iv .i64 0), (4, .hp ⟨4, 1⟩ 0 0), (9, .hp ⟨47, 1⟩ 0 0), (10, .hm ⟨48, 1⟩), (11, .hs ⟨11, 1⟩ 0 2), (49, kd2), (50, iv .i64 (2 : Nat)), (51, iv .i64 2)],
     [(4, ⟨1, true, true, .cells 1 [.agg [.hs ⟨10000004, 1⟩ 0 0]]⟩), (11, ⟨1, true, false, .cells 1 (ints [0, 1])⟩), (47, ⟨1, true, true, .cells 2 [.agg [.hs ⟨10000047, 1⟩ 0 2, .hm ⟨20000047, 1⟩]]⟩), (48, ⟨1, true, false, .map (.int .i64) []⟩), (10000004, ⟨1, true, false, .cells 3 []⟩), (10000047, ⟨1, true, false, .cells 3 (ns (nds [.lf 0, .lf 1]))⟩), (20000047, ⟨1, true, false, .map .str (entL (nds [.lf 0, .lf 1]))⟩)]⟩)
   (fun i => 2 - i.1) ⟨0, Nat.zero_le _⟩ (by first | rfl | simp [tc, qc]) ?_
  rintro ⟨i, hi⟩
  have h2 : i = 0 ∨ i = 1 ∨ i = 2 := by omega
  rcases h2 with rfl | rfl | rfl
  ·simp only
   refine wk0 ?_
   refine callI (c_ShL 0 (by omega)) ?_
   refine wk0 ?_
   refine callI (c_Root0) ?_
   refine wk0 ?_
   exact ⟨⟨1, by omega⟩, (by first | rfl | simp [tc, qc]), by simp only; omega⟩
  ·simp only
   have t1 : Int.toNat 1 = 1 := rfl
   refine wk1 @t1 ?_
   refine callI (c_ShL 1 (by omega)) ?_
   refine wk0 ?_
   refine callI (c_Root1) ?_
   refine wk0 ?_
   exact ⟨⟨2, by omega⟩, (by first | rfl | simp [tc, qc]), by simp only; omega⟩
  ·simp only
   refine wk0 ?_
   refine run_loop [0, 4, 9, 11, 69] [4, 11, 47, 10000004, 10000047, 20000047] (α := Unit)
    (fun _ => ⟨[(0, iv .i64 0), (4, .hp ⟨4, 1⟩ 0 0), (9, .hp ⟨47, 1⟩ 0 0), (11, .hs ⟨11, 1⟩ 0 2), (69, .it)],
     [(4, ⟨1, true, true, .cells 1 [.agg [.hs ⟨10000004, 1⟩ 0 0]]⟩), (11, ⟨1, true, false, .cells 1 (ints [0, 1])⟩), (47, ⟨1, true, true, .cells 2 [.agg [.hs ⟨10000047, 1⟩ 0 2, .hm ⟨20000047, 1⟩]]⟩), (10000004, ⟨1, true, false, .cells 3 []⟩), (10000047, ⟨1, true, false, .cells 3 (ns (nds [.lf 0, .lf 1]))⟩), (20000047, ⟨1, true, false, .map .str (entL (nds [.lf 0, .lf 1]))⟩)]⟩)
    (fun _ => 0) () (by first | rfl | simp [tc, qc]) ?_
   rintro ⟨⟩
   refine wk0 ?_
   refine callI (c_Br2) ?_
   refine wk0 ?_
   refine callI (hx2) ?_
   refine wk0 ?_
   exact ⟨Or.inl (by simp [cleanL, cleanCell]), by simp [VC, cellKeys, disjB]⟩
theorem gl_kms2 {W : Nat → Nat → List Tm} {l : List Tr} {m : List (List Tm)} {i x : Nat} (hc : Clo l) (hi : i < l.length) (hx : i ≤ x) (hm : m.length = l.length) : ∀ {k : Nat}, k ≤ (kidsOf (gt l i)).length → gl (kms W l i (gt l i) m k) x = gl m x
 | 0, _ => rfl
 | k + 1, h => by
  have hk := kid_lt hc hi (gt_mem (l := kidsOf (gt l i)) (k := k) (by omega))
  rw [kms, kst, gl_set _ _ _ _ (by rw [kms_len, hm]; exact ix_lt hk.1), if_neg (by omega), gl_kms2 hc hi hx hm (by omega)]
theorem root_mass {W : Nat → Nat → List Tm} {l : List Tr} (hc : Clo l) (h0 : 0 < l.length) : ∀ {j : Nat}, j ≤ l.length → gl (mss W l j) (l.length - 1) = pone
 | 0, _ => by rw [mss, gl_set _ _ _ _ (by rw [List.length_replicate]; omega), if_pos rfl]
 | j + 1, h => by rw [mss, gl_kms2 hc (by omega) (by omega) (mss_len W l j) (Nat.le_refl _), root_mass hc h0 (by omega)]
theorem coin_root (ds : List (Int × List (List Tm))) : gl (msA (wt (wsO ds)) (enum tcn [])) 2 = pone := by
 have h := root_mass (W := wt (wsO ds)) (l := enum tcn []) (enum_clo .nil) (List.length_pos_of_mem (mem_enum tcn [])) (Nat.le_refl _)
 have e : (enum tcn []).length - 1 = 2 := by rw [enum_tcn]; rfl
 rw [e] at h
 exact h
theorem coin_one {ds : List (Int × List (List Tm))} (h : Rin tcn ds) : gl (msA (wt (wsO ds)) (enum tcn [])) 1 = exq tcn ds := by
 refine (h.masses 1).cn.ext (exq_Cn _ _) fun F => ?_
 rw [exq, esum_L]
 generalize msA (wt (wsO ds)) (enum tcn []) = m
 rw [enum_tcn]
 show L (gl m 1) F = 0 + ((0 : Int) : Rat) * L (gl m 0) F + ((1 : Int) : Rat) * L (gl m 1) F + 0
 have e0 : ((0 : Int) : Rat) = 0 := rfl
 have e1 : ((1 : Int) : Rat) = 1 := rfl
 rw [e0, e1]
 grind
theorem c_awake : CT 16 [] { val := .sc (.bool true), args := [] } := by
 have hb := c_Branch2
 have h0 := c_ConstD 0
 have h1 := c_ConstD 1
 have hn := c_New [0, 2, 2] (by simp)
 rw [show ([0, 2, 2] : List Int).take 1000 = [0, 2, 2] from rfl] at hn
 have hin := tcn_in [0, 2, 2] 0 (by omega)
 have hds : CT 21 [sp [0, 2, 2] 0, .data (iv .i64 1), .data (iv .i64 0)] { val := .sl 10 (dscs (dst [0, 2, 2] 0 0 1).1), args := [sp [0, 2, 2] (dst [0, 2, 2] 0 0 1).2, .data (iv .i64 1), .data (iv .i64 0)] } := c_Dists [0, 2, 2] 0 1 0 (by simp) (by simp) (by omega) (by omega)
 generalize (dst [0, 2, 2] 0 0 1).1 = D at *
 generalize (dst [0, 2, 2] 0 0 1).2 = b at *
 have he := c_Expect tcn D hin
 have hr := c_Reach tcn D hin
 have hm := hin.masses
 have hxq := hin.exqQ
 have k1 := coin_one hin
 have k2 := coin_root D
 have hml := msA_len (wt (wsO D)) (enum tcn [])
 rw [show (enum tcn []).length = 3 by rw [enum_tcn]; rfl] at hml
 have hs1 := c_Samep (exq tcn D) (exq tcn D) (hxq.qz (by omega)) (hxq.qz (by omega)) (by have := hxq.len2 (by omega); omega) (by have := hxq.len2 (by omega); omega)
 rw [decide_eq_true rfl] at hs1
 have hs2 := c_Samep pone pone (PQ.one.qz (by omega)) (PQ.one.qz (by omega)) (by decide) (by decide)
 rw [decide_eq_true rfl] at hs2
 clear hin hm hxq
 generalize msA (wt (wsO D)) (enum tcn []) = m at *
 have a1 := psl_at m (i := 1) (by omega)
 have a2 := psl_at m (i := 2) (by omega)
 rw [k1] at a1
 rw [k2] at a2
 have t1 : Int.toNat 1 = 1 := rfl
 have t2 : Int.toNat 2 = 2 := rfl
 generalize exq tcn D = X at *
 unfold dg at hb
 refine Ctr.intro ⟨Tryz.f16, _, Tryz.call16, Tryz.func16, fold_body (by rfl) (by kernel_rfl), (by simp [Tryz.ntmps16]), (by simp), (by kernel_rfl), ?_⟩
 refine wks ?_
 refine wk0 ?_
 refine callI (h0) ?_
 refine wk0 ?_
 refine callI (h1) ?_
 refine wk0 ?_
 refine callI (hb) ?_
 refine wk0 ?_
 refine callI (hn) ?_
 refine wk0 ?_
 refine callI (hds) ?_
 refine wk0 ?_
 refine callI (he) ?_
 refine wk0 ?_
 refine vcalm (by kernel_rfl) ?_
 refine wk0 ?_
 refine callI (hn) ?_
 refine wk0 ?_
 refine callI (hds) ?_
 refine wk0 ?_
 refine callI (hr) ?_
 refine wk0 ?_
 refine vcalm (by kernel_rfl) ?_
 refine wk5 @a1 @a2 @t1 @t2 @hml ?_
 refine callI (hs1) ?_
 refine wk5 @a1 @a2 @t1 @t2 @hml ?_
 refine callI (c_One) ?_
 refine wk0 ?_
 refine callI (hs2) ?_
 refine wk0 ?_
 refine vcalm (by kernel_rfl) ?_
 refine wk0 ?_
 simp [VC]
end Go.Proofs.YteipiejlljnclaaGreatDoor
