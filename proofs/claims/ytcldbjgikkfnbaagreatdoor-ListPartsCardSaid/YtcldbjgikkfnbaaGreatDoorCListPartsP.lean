/-
  What ListParts asks of list's operations, as data. Plain. Conditions: none.
-/
import Derived.Test.YtcldbjgikkfnbaaGreatDoorCListTab
import Derived.Test.YtcldbjgikkfnbaaGreatDoorCPlSameL
namespace Go.Proofs.YtcldbjgikkfnbaaGreatDoor
open Go.RowKit
set_option linter.unusedVariables false

def pL (l : List Pl) : Pl := .mk 5 0 ⟨#[]⟩ l
/-- A list that may be, of values that may be. -/
structure PP (ps : List Pl) : Prop where
  oks : ps.all Pl.ok = true
  may : (Vl.list (Pls.toVl ps)).mayV = true
theorem pp_map : ∀ l : List Pl, Pls.toVl l = l.map Pl.toVl
  | [] => by simp [Pls.toVl]
  | p :: ps => by rw [List.map_cons, ← pp_map ps]; simp [Pls.toVl]
theorem pp_toVl (l : List Pl) : (pL l).toVl = .list (Pls.toVl l) := by unfold pL; rw [toVl_mk]; rfl
theorem pp_asList (l : List Pl) : (pL l).toVl.asList = some (Pls.toVl l) := by rw [pp_toVl]; rfl
theorem pp_asInt (n : Int) : (nPl n).toVl.asInt = some n := by unfold nPl; rw [toVl_mk]; rfl
theorem PP.norm {l : List Pl} (h : PP l) : Pls.normB l = true := norms_of (fun p hp => mayB_norm (by rw [mayB_ok]; exact List.all_eq_true.1 h.oks p hp))
theorem PP.ok {l : List Pl} (h : PP l) : (pL l).ok = true := by rw [← mayB_ok]; unfold pL; rw [list_may h.norm]; exact h.may
theorem PP.at_ok {l : List Pl} (h : PP l) (i : Nat) (hi : i < l.length) : l[i].ok = true := List.all_eq_true.1 h.oks _ (List.getElem_mem hi)
theorem PP.at_back {l : List Pl} (h : PP l) (i : Nat) (hi : i < l.length) : l[i].toVl.toPl = l[i] := Pl.back _ (norms_mem h.norm _ (List.getElem_mem hi))
theorem PP.at_bounds {l : List Pl} (h : PP l) (i : Nat) (hi : i < l.length) : l[i].toVl.count ≤ 65536 ∧ l[i].toVl.dep ≤ 65 := by
  have hb := one_of_may h.may i (by rw [Pls.toVl_length]; exact hi)
  have e : (Pls.toVl l)[i]'(by rw [Pls.toVl_length]; exact hi) = l[i].toVl := by simp [pp_map]
  rw [e] at hb
  exact hb
theorem PP.back {l : List Pl} (h : PP l) : (Vl.list (Pls.toVl l)).toPl = pL l := by unfold Vl.toPl; rw [Pls.back l h.norm]; rfl
theorem PP.bounds {l : List Pl} (h : PP l) : (Vl.list (Pls.toVl l)).count ≤ 65536 ∧ (Vl.list (Pls.toVl l)).dep ≤ 65 := Vl.mayV_bounds h.may
theorem PP.len {l : List Pl} (h : PP l) : l.length ≤ 65535 := by
  have h1 := h.bounds.1
  have h2 := Vls.len_count (Pls.toVl l)
  unfold Vl.count at h1
  rw [Pls.toVl_length] at h2
  omega
theorem PP.piece {l : List Pl} (h : PP l) (a b : Nat) : PP ((l.take b).drop a) where
  oks := List.all_eq_true.2 (fun p hp => List.all_eq_true.1 h.oks p (List.mem_of_mem_take (List.mem_of_mem_drop hp)))
  may := by rw [pp_map, List.map_drop, List.map_take, ← pp_map]; exact may_piece h.may a b
theorem PP.take {l : List Pl} (h : PP l) (k : Nat) : PP (l.take k) := by simpa using h.piece 0 k
theorem PP.drop {l : List Pl} (h : PP l) (k : Nat) : PP (l.drop k) := by simpa using h.piece k l.length
theorem PP.reverse {l : List Pl} (h : PP l) : PP l.reverse where
  oks := List.all_eq_true.2 (fun p hp => List.all_eq_true.1 h.oks p (List.mem_reverse.1 hp))
  may := by rw [pp_map, List.map_reverse, ← pp_map]; exact may_reverse h.may
theorem lw_of (ps : List Pl) : lWork ln_of ps = lRes none lMade ps := by unfold lWork; rw [if_pos rfl]
theorem lw_size (ps : List Pl) : lWork ln_size ps = lRes (some 1) (lArgs1 lSize) ps := by unfold lWork; rw [if_neg (by decide), if_pos rfl]
theorem lw_at (ps : List Pl) : lWork ln_at ps = lRes (some 2) (lArgs2 lAt) ps := by unfold lWork; rw [if_neg (by decide), if_neg (by decide), if_pos rfl]
theorem lw_join (ps : List Pl) : lWork ln_join ps = lRes (some 2) (lArgs2 lJoin) ps := by unfold lWork; rw [if_neg (by decide), if_neg (by decide), if_neg (by decide), if_pos rfl]
theorem lw_add (ps : List Pl) : lWork ln_add ps = lRes (some 2) (lArgs2 lAdd) ps := by unfold lWork; rw [if_neg (by decide), if_neg (by decide), if_neg (by decide), if_neg (by decide), if_pos rfl]
theorem lw_cut (ps : List Pl) : lWork ln_cut ps = lRes (some 3) (lArgs3 lCut) ps := by unfold lWork; rw [if_neg (by decide), if_neg (by decide), if_neg (by decide), if_neg (by decide), if_neg (by decide), if_pos rfl]
theorem lw_turn (ps : List Pl) : lWork ln_turn ps = lRes (some 1) (lArgs1 lTurn) ps := by unfold lWork; rw [if_neg (by decide), if_neg (by decide), if_neg (by decide), if_neg (by decide), if_neg (by decide), if_neg (by decide), if_pos rfl]
theorem lres1 {f : Vl → Int × Vl} {p : Pl} (h : p.ok = true) : lRes (some 1) (lArgs1 f) [p] = f p.toVl := by
  unfold lRes
  rw [if_pos (.inr rfl), if_pos (by simp [h]), show Pls.toVl [p] = [p.toVl] by simp [Pls.toVl]]
  rfl
theorem lres2 {f : Vl → Vl → Int × Vl} {p q : Pl} (h : p.ok = true) (h' : q.ok = true) : lRes (some 2) (lArgs2 f) [p, q] = f p.toVl q.toVl := by
  unfold lRes
  rw [if_pos (.inr rfl), if_pos (by simp [h, h']), show Pls.toVl [p, q] = [p.toVl, q.toVl] by simp [Pls.toVl]]
  rfl
theorem lres3 {f : Vl → Vl → Vl → Int × Vl} {p q r : Pl} (h : p.ok = true) (h' : q.ok = true) (h'' : r.ok = true) : lRes (some 3) (lArgs3 f) [p, q, r] = f p.toVl q.toVl r.toVl := by
  unfold lRes
  rw [if_pos (.inr rfl), if_pos (by simp [h, h', h'']), show Pls.toVl [p, q, r] = [p.toVl, q.toVl, r.toVl] by simp [Pls.toVl]]
  rfl
theorem pp_of (ps : List Pl) : (∃ e, (e = 1 ∨ e = 2) ∧ lWork ln_of ps = lBad e) ∨ (PP ps ∧ lWork ln_of ps = (0, .list (Pls.toVl ps))) := by
  rw [lw_of]
  unfold lRes
  rw [if_pos (.inl rfl)]
  by_cases ha : ps.all Pl.ok = true
  · rw [if_pos ha]
    unfold lMade
    by_cases hm : (Vl.list (Pls.toVl ps)).mayV = true
    · rw [if_pos hm]; exact .inr ⟨⟨ha, hm⟩, rfl⟩
    · rw [if_neg hm]; exact .inl ⟨2, .inr rfl, rfl⟩
  · rw [if_neg ha]; exact .inl ⟨1, .inl rfl, rfl⟩
theorem pp_cut {ps : List Pl} (h : PP ps) (a b : Nat) (hab : a ≤ b) (hb : b ≤ ps.length) : lWork ln_cut [pL ps, nPl (a : Int), nPl (b : Int)] = (0, .list (Pls.toVl ((ps.take b).drop a))) := by
  rw [lw_cut, lres3 h.ok (nPl_ok _) (nPl_ok _)]
  unfold lCut
  rw [pp_asList, pp_asInt, pp_asInt]
  show lCutN (Pls.toVl ps) a b = _
  unfold lCutN
  rw [if_pos (by rw [Pls.toVl_length]; omega), pp_map ((ps.take b).drop a), List.map_drop, List.map_take, ← pp_map, Int.toNat_natCast, Int.toNat_natCast]
theorem pp_join {l m : List Pl} (h : PP (l ++ m)) (hl : PP l) (hm : PP m) : lWork ln_join [pL l, pL m] = (0, .list (Pls.toVl (l ++ m))) := by
  rw [lw_join, lres2 hl.ok hm.ok]
  unfold lJoin
  rw [pp_asList, pp_asList]
  show lMade (Pls.toVl l ++ Pls.toVl m) = _
  rw [pp_map l, pp_map m, ← List.map_append, ← pp_map]
  unfold lMade
  rw [if_pos h.may]
theorem pp_size {ps : List Pl} (h : PP ps) : lWork ln_size [pL ps] = (0, .int (ps.length : Int)) := by
  rw [lw_size, lres1 h.ok]
  unfold lSize
  rw [pp_asList]
  show ((0 : Int), Vl.int ((Pls.toVl ps).length : Int)) = _
  rw [Pls.toVl_length]
theorem pp_turn {ps : List Pl} (h : PP ps) : lWork ln_turn [pL ps] = (0, .list (Pls.toVl ps.reverse)) := by
  rw [lw_turn, lres1 h.ok]
  unfold lTurn
  rw [pp_asList]
  show ((0 : Int), Vl.list (Pls.toVl ps).reverse) = _
  rw [pp_map ps, ← List.map_reverse, ← pp_map]
theorem pp_at {ps : List Pl} (h : PP ps) (i : Nat) (hi : i < ps.length) : lWork ln_at [pL ps, nPl (i : Int)] = (0, ps[i].toVl) := by
  rw [lw_at, lres2 h.ok (nPl_ok _)]
  unfold lAt
  rw [pp_asList, pp_asInt]
  show lAtN (Pls.toVl ps) i = _
  unfold lAtN
  rw [if_pos (by omega), Int.toNat_natCast, pp_map, List.getElem?_map, List.getElem?_eq_getElem hi]
  rfl
theorem pp_at_rev {ps : List Pl} (h : PP ps) (i : Nat) (hi : i < ps.length) : lWork ln_at [pL ps.reverse, nPl ((ps.length : Int) - 1 - i)] = (0, ps[i].toVl) := by
  have e : (ps.length : Int) - 1 - i = ((ps.length - 1 - i : Nat) : Int) := by omega
  rw [e, pp_at h.reverse (ps.length - 1 - i) (by rw [List.length_reverse]; omega)]
  have e2 : ps.reverse[ps.length - 1 - i]'(by rw [List.length_reverse]; omega) = ps[i] := by
    rw [List.getElem_reverse]
    congr 1
    omega
  rw [e2]
theorem pp_add {ps : List Pl} (h : PP ps) (i : Nat) (hi : i < ps.length) : lWork ln_add [pL (ps.take i), ps[i]] = (0, .list (Pls.toVl (ps.take (i + 1)))) := by
  rw [lw_add, lres2 (h.take i).ok (h.at_ok i hi)]
  unfold lAdd
  rw [pp_asList]
  show lMade (Pls.toVl (ps.take i) ++ [ps[i].toVl]) = _
  have e : Pls.toVl (ps.take i) ++ [ps[i].toVl] = Pls.toVl (ps.take (i + 1)) := by
    rw [pp_map (ps.take (i + 1)), List.take_succ_eq_append_getElem hi, List.map_append, ← pp_map]
    rfl
  rw [e]
  unfold lMade
  rw [if_pos (h.take (i + 1)).may]
end Go.Proofs.YtcldbjgikkfnbaaGreatDoor
