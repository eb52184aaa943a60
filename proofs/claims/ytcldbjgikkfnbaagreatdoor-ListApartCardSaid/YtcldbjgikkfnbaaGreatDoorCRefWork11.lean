/-
  Texts of a proof in one: RefWork11, ListLawC. Conditions: each names its own.
-/
import Derived.Test.YtcldbjgikkfnbaaGreatDoorCListRowS
import Derived.Test.YtcldbjgikkfnbaaGreatDoorCRefGood11c
import Derived.Test.YtcldbjgikkfnbaaGreatDoorCListTab
import Derived.Test.YtcldbjgikkfnbaaGreatDoorCPlSameL
import Derived.Test.YtcldbjgikkfnbaaGreatDoorCListCountC
import Derived.Test.YtcldbjgikkfnbaaGreatDoorCLawLight11
import Derived.Test.YtcldbjgikkfnbaaGreatDoorCPlainL
/-
  espalierref11.Work, whole: what it gives is what list.Work gives. Conditions: the plain values lie in memory; their lists' capacities are no less than their lengths.
-/
namespace Go.Proofs.YtcldbjgikkfnbaaGreatDoor
open Go.RowKit
set_option linter.unusedVariables false

/-- What is given, as a plain value. -/
def toR (r : Int × Vl) : Int × Pl := (r.1, if r.1 = 0 then r.2.toPl else zPl)
theorem toR_bad (e : Int) (h : e ≠ 0) : toR (lBad e) = rBad e := by unfold toR lBad rBad; simp [h]
theorem toR_ok (v : Vl) : toR (0, v) = (0, v.toPl) := by simp [toR]
theorem toVl_map : ∀ l : List Pl, Pls.toVl l = l.map Pl.toVl
  | [] => by simp [Pls.toVl]
  | p :: ps => by rw [List.map_cons, ← toVl_map ps]; simp [Pls.toVl]
theorem whole_made {l : List Pl} (h : Pls.normB l = true) : rWhole l = toR (lMade (Pls.toVl l)) := by
  unfold rWhole lMade lPl
  rw [list_may h]
  by_cases hm : (Vl.list (Pls.toVl l)).mayV = true
  · rw [if_pos hm, if_pos hm, toR_ok]
    unfold Vl.toPl
    rw [Pls.back l h]
  · rw [if_neg hm, if_neg hm, toR_bad 2 (by decide)]
theorem kind5 {p : Pl} (hm : p.mayB = true) (h5 : p.kind = 5) : p.toVl = .list (Pls.toVl p.list) ∧ Pls.normB p.list = true ∧ (Vl.list (Pls.toVl p.list)).mayV = true := by
  have hn := mayB_norm hm
  have h1 := mayB_mayV hm
  obtain ⟨k, n, t, l⟩ := p
  have h5' : k = 5 := h5
  subst h5'
  have e : (Pl.mk 5 n t l).toVl = .list (Pls.toVl l) := by rw [toVl_mk]; rfl
  rw [e] at h1
  exact ⟨e, (norm_parts hn).2, h1⟩
theorem kind_no5 {p : Pl} (h5 : ¬ p.kind = 5) : p.toVl.asList = none := by
  obtain ⟨k, n, t, l⟩ := p
  have h5' : ¬ k = 5 := h5
  rw [toVl_mk]
  by_cases k2 : k = 2; · rw [if_pos k2]; rfl
  by_cases k3 : k = 3; · rw [if_neg k2, if_pos k3]; rfl
  by_cases k4 : k = 4; · rw [if_neg k2, if_neg k3, if_pos k4]; rfl
  rw [if_neg k2, if_neg k3, if_neg k4, if_neg h5']; rfl
theorem kind3 {p : Pl} (h3 : p.kind = 3) : p.toVl.asInt = some p.num := by
  obtain ⟨k, n, t, l⟩ := p
  have h3' : k = 3 := h3
  subst h3'
  rw [toVl_mk]; rfl
theorem kind_no3 {p : Pl} (h3 : ¬ p.kind = 3) : p.toVl.asInt = none := by
  obtain ⟨k, n, t, l⟩ := p
  have h3' : ¬ k = 3 := h3
  rw [toVl_mk]
  by_cases k2 : k = 2; · rw [if_pos k2]; rfl
  rw [if_neg k2, if_neg h3']
  by_cases k4 : k = 4; · rw [if_pos k4]; rfl
  rw [if_neg k4]
  by_cases k5 : k = 5; · rw [if_pos k5]; rfl
  rw [if_neg k5]; rfl
theorem norms_all {ps : List Pl} (h : ps.all Pl.mayB = true) : Pls.normB ps = true := norms_of (fun p hp => mayB_norm (List.all_eq_true.1 h p hp))
theorem norms_sub {l m : List Pl} (h : Pls.normB l = true) (hs : ∀ p ∈ m, p ∈ l) : Pls.normB m = true := norms_of (fun p hp => norms_mem h p (hs p hp))
theorem r_count (n : Int) : rCountN n = toR (lCountN n) := by
  unfold rCountN lCountN
  by_cases h0 : n < 0
  · rw [if_pos h0, if_pos h0, toR_bad 23 (by decide)]
  rw [if_neg h0, if_neg h0]
  by_cases h1 : 65536 ≤ n
  · rw [if_pos h1, if_pos h1, toR_bad 2 (by decide)]
  rw [if_neg h1, if_neg h1]
  have hb : Pls.toVl (numsP n.toNat) = below n.toNat := by
    rw [toVl_map]
    unfold numsP below
    rw [List.map_map]
    exact List.map_congr_left (fun k _ => nPl_toVl _)
  rw [← hb]
  refine whole_made (norms_of (fun p hp => ?_))
  unfold numsP at hp
  obtain ⟨k, _, rfl⟩ := List.mem_map.1 hp
  exact mayB_norm (by rw [mayB_ok]; exact nPl_ok _)
theorem r_at {l : List Pl} (h : Pls.normB l = true) (n : Int) : rAtN l n = toR (lAtN (Pls.toVl l) n) := by
  unfold rAtN lAtN
  by_cases h0 : 0 ≤ n
  · rw [if_pos h0, if_pos h0, toVl_map, List.getElem?_map]
    cases hq : l[n.toNat]? with
    | none => exact (toR_bad 23 (by decide)).symm
    | some y =>
      show (0, y) = toR (0, y.toVl)
      rw [toR_ok, Pl.back y (norms_mem h y (List.mem_of_getElem? hq))]
  · rw [if_neg h0, if_neg h0, toR_bad 23 (by decide)]
theorem r_cut {l : List Pl} (h : Pls.normB l = true) (hm : (Vl.list (Pls.toVl l)).mayV = true) (a b : Int) : rCutN l a b = toR (lCutN (Pls.toVl l) a b) := by
  unfold rCutN lCutN
  rw [Pls.toVl_length]
  by_cases h0 : 0 ≤ a ∧ a ≤ b ∧ b ≤ l.length
  · rw [if_pos h0, if_pos h0, whole_made (norms_sub h (fun p hp => List.mem_of_mem_take (List.mem_of_mem_drop hp)))]
    have e : Pls.toVl ((l.take b.toNat).drop a.toNat) = ((Pls.toVl l).take b.toNat).drop a.toNat := by rw [toVl_map, toVl_map, List.map_drop, List.map_take]
    rw [e]
    unfold lMade
    rw [if_pos (may_piece hm _ _)]
  · rw [if_neg h0, if_neg h0, toR_bad 23 (by decide)]
theorem r_turn {l : List Pl} (h : Pls.normB l = true) (hm : (Vl.list (Pls.toVl l)).mayV = true) : rWhole l.reverse = toR (0, .list (Pls.toVl l).reverse) := by
  rw [whole_made (norms_sub h (fun p hp => List.mem_reverse.1 hp))]
  have e : Pls.toVl l.reverse = (Pls.toVl l).reverse := by rw [toVl_map, toVl_map, List.map_reverse]
  rw [e]
  unfold lMade
  rw [if_pos (may_reverse hm)]
theorem kAt {w : World} {ps : List Pl} {b o : Nat} (h : Pls.lies w w.heap.size ps (some ⟨b, o, none⟩)) (j : Nat) (hj : j < ps.length) : w.cell? ⟨b, o + j * 4, none⟩ = some (.int .i64 ps[j].kind) := (h.at_ j hj).parts.2.1
theorem r11_op (op : ByteArray) (k : Nat) (f : List Vl → Int × Vl) (hm : ∀ ps, mayV op ps listRows = if ps.length = k then (if ps.all Pl.mayB = true then 0 else 1) else 11)
    (hg : ∀ (ps : List Pl), ps.length = k → ps.all Pl.mayB = true → mayV op ps listRows = 0 → ∀ (A : Option Addr) (c : Nat) (w : World), ps.length * 56 ≤ 140737488351232 → Pls.lies w w.heap.size ps A → CapsAt w ps A → Calls Tryz.prog 17 #[.string op, .slice A ps.length c] w (ROut (toR (f (Pls.toVl ps))) w))
    (ps : List Pl) (A : Option Addr) (c : Nat) (w : World) (hlen : ps.length * 56 ≤ 140737488351232) (hl : Pls.lies w w.heap.size ps A) (hcaps : CapsAt w ps A) :
    Calls Tryz.prog 17 #[.string op, .slice A ps.length c] w (ROut (toR (lRes (some k) f ps)) w) := by
  have h := hm ps
  unfold lRes
  by_cases hk : ps.length = k
  · rw [if_pos (.inr (by rw [hk]))]
    rw [if_pos hk] at h
    by_cases ha : ps.all Pl.mayB = true
    · rw [if_pos ha] at h
      have ha' : ps.all Pl.ok = true := by rw [← ha]; exact List.all_congr rfl (fun p => (mayB_ok p).symm)
      rw [if_pos ha']
      exact hg ps hk ha h A c w hlen hl hcaps
    · rw [if_neg ha] at h
      have ha' : ¬ ps.all Pl.ok = true := by intro hx; exact ha (by rw [← hx]; exact List.all_congr rfl (fun p => mayB_ok p))
      rw [if_neg ha', toR_bad 1 (by decide)]
      exact ref11_Work_no op ps 1 h (by decide) A c w hlen hl
  · rw [if_neg hk] at h
    rw [if_neg (by rintro (h1 | h1); · cases h1
                   · exact hk (Option.some.inj h1).symm), toR_bad 11 (by decide)]
    exact ref11_Work_no op ps 11 h (by decide) A c w hlen hl
-- ops (gen_r11.py)
theorem r11_size : ∀ (ps : List Pl) (A : Option Addr) (c : Nat) (w : World), ps.length * 56 ≤ 140737488351232 → Pls.lies w w.heap.size ps A → CapsAt w ps A → Calls Tryz.prog 17 #[.string ln_size, .slice A ps.length c] w (ROut (toR (lRes (some 1) (lArgs1 lSize) ps)) w) :=
  r11_op ln_size 1 (lArgs1 lSize) may_size (fun ps hc hall hn A c w hlen hl hcaps => by
  obtain ⟨p, rfl⟩ := lenL1 (.inr (by rw [hc]))
  rw [show Pls.toVl [p] = [p.toVl] by simp [Pls.toVl]]
  show Calls Tryz.prog 17 _ w (ROut (toR (lSize p.toVl)) w)
  have hp : p.mayB = true := by simpa using hall
  by_cases hk : p.kind = 5
  · have he : toR (lSize p.toVl) = (0, nPl (p.list.length : Int)) := by
      unfold lSize
      obtain ⟨e0, n0, m0⟩ := kind5 hp hk
      rw [e0]
      show toR (0, .int _) = _
      rw [Pls.toVl_length, toR_ok]
      rfl
    rw [he]
    exact ref11_good_size p hall hk A c w hl
  · have he : toR (lSize p.toVl) = rBad 20 := by
      unfold lSize
      rw [kind_no5 hk]
      exact toR_bad 20 (by decide)
    rw [he]
    exact ref11_Work_kind ln_size [p] hn A c w hlen hl (fun w' h => by
      obtain ⟨b, o, rfl⟩ := h.head (by simp)
      exact kinds_size b o c p.kind w' (by simpa using kAt h 0 (by simp)) false (by
        cases hd : (decide (p.kind = 5))
        · rfl
        · exact absurd (by simpa [and_assoc] using hd) hk)))
theorem r11_turn : ∀ (ps : List Pl) (A : Option Addr) (c : Nat) (w : World), ps.length * 56 ≤ 140737488351232 → Pls.lies w w.heap.size ps A → CapsAt w ps A → Calls Tryz.prog 17 #[.string ln_turn, .slice A ps.length c] w (ROut (toR (lRes (some 1) (lArgs1 lTurn) ps)) w) :=
  r11_op ln_turn 1 (lArgs1 lTurn) may_turn (fun ps hc hall hn A c w hlen hl hcaps => by
  obtain ⟨p, rfl⟩ := lenL1 (.inr (by rw [hc]))
  rw [show Pls.toVl [p] = [p.toVl] by simp [Pls.toVl]]
  show Calls Tryz.prog 17 _ w (ROut (toR (lTurn p.toVl)) w)
  have hp : p.mayB = true := by simpa using hall
  by_cases hk : p.kind = 5
  · have he : toR (lTurn p.toVl) = rWhole p.list.reverse := by
      unfold lTurn
      obtain ⟨e0, n0, m0⟩ := kind5 hp hk
      rw [e0]
      exact (r_turn n0 m0).symm
    rw [he]
    exact ref11_good_turn p hall hk A c w hl
  · have he : toR (lTurn p.toVl) = rBad 20 := by
      unfold lTurn
      rw [kind_no5 hk]
      exact toR_bad 20 (by decide)
    rw [he]
    exact ref11_Work_kind ln_turn [p] hn A c w hlen hl (fun w' h => by
      obtain ⟨b, o, rfl⟩ := h.head (by simp)
      exact kinds_turn b o c p.kind w' (by simpa using kAt h 0 (by simp)) false (by
        cases hd : (decide (p.kind = 5))
        · rfl
        · exact absurd (by simpa [and_assoc] using hd) hk)))
theorem r11_count : ∀ (ps : List Pl) (A : Option Addr) (c : Nat) (w : World), ps.length * 56 ≤ 140737488351232 → Pls.lies w w.heap.size ps A → CapsAt w ps A → Calls Tryz.prog 17 #[.string ln_count, .slice A ps.length c] w (ROut (toR (lRes (some 1) (lArgs1 lCount) ps)) w) :=
  r11_op ln_count 1 (lArgs1 lCount) may_count (fun ps hc hall hn A c w hlen hl hcaps => by
  obtain ⟨p, rfl⟩ := lenL1 (.inr (by rw [hc]))
  rw [show Pls.toVl [p] = [p.toVl] by simp [Pls.toVl]]
  show Calls Tryz.prog 17 _ w (ROut (toR (lCount p.toVl)) w)
  have hp : p.mayB = true := by simpa using hall
  by_cases hk : p.kind = 3
  · have he : toR (lCount p.toVl) = rCountN p.num := by
      unfold lCount
      rw [kind3 hk]
      exact (r_count p.num).symm
    rw [he]
    exact ref11_good_count p hall hk A c w hl
  · have he : toR (lCount p.toVl) = rBad 20 := by
      unfold lCount
      rw [kind_no3 hk]
      exact toR_bad 20 (by decide)
    rw [he]
    exact ref11_Work_kind ln_count [p] hn A c w hlen hl (fun w' h => by
      obtain ⟨b, o, rfl⟩ := h.head (by simp)
      exact kinds_count b o c p.kind w' (by simpa using kAt h 0 (by simp)) false (by
        cases hd : (decide (p.kind = 3))
        · rfl
        · exact absurd (by simpa [and_assoc] using hd) hk)))
theorem r11_at : ∀ (ps : List Pl) (A : Option Addr) (c : Nat) (w : World), ps.length * 56 ≤ 140737488351232 → Pls.lies w w.heap.size ps A → CapsAt w ps A → Calls Tryz.prog 17 #[.string ln_at, .slice A ps.length c] w (ROut (toR (lRes (some 2) (lArgs2 lAt) ps)) w) :=
  r11_op ln_at 2 (lArgs2 lAt) may_at (fun ps hc hall hn A c w hlen hl hcaps => by
  obtain ⟨p, q, rfl⟩ := lenL2 (.inr (by rw [hc]))
  rw [show Pls.toVl [p, q] = [p.toVl, q.toVl] by simp [Pls.toVl]]
  show Calls Tryz.prog 17 _ w (ROut (toR (lAt p.toVl q.toVl)) w)
  have hpq : p.mayB = true ∧ q.mayB = true := by simpa using hall
  obtain ⟨hp, hq⟩ := hpq
  by_cases hk : p.kind = 5 ∧ q.kind = 3
  · have he : toR (lAt p.toVl q.toVl) = rAtN p.list q.num := by
      unfold lAt
      obtain ⟨e0, n0, m0⟩ := kind5 hp hk.1
      rw [e0]
      rw [kind3 hk.2]
      exact (r_at n0 q.num).symm
    rw [he]
    exact ref11_good_at p q hall hk.1 hk.2 A c w hl
  · have he : toR (lAt p.toVl q.toVl) = rBad 20 := by
      unfold lAt
      by_cases g0 : p.kind = 5
      case neg => rw [kind_no5 g0]; first | exact toR_bad 20 (by decide) | (split <;> first | exact toR_bad 20 (by decide) | (exfalso; simp_all))
      by_cases g1 : q.kind = 3
      · exact absurd ⟨g0, g1⟩ hk
      · rw [kind_no3 g1]; first | exact toR_bad 20 (by decide) | (split <;> first | exact toR_bad 20 (by decide) | (exfalso; simp_all))
    rw [he]
    exact ref11_Work_kind ln_at [p, q] hn A c w hlen hl (fun w' h => by
      obtain ⟨b, o, rfl⟩ := h.head (by simp)
      exact kinds_at b o c p.kind q.kind w' (by simpa using kAt h 0 (by simp)) (by simpa using kAt h 1 (by simp)) false (by
        cases hd : (decide (p.kind = 5) && decide (q.kind = 3))
        · rfl
        · exact absurd (by simpa [and_assoc] using hd) hk)))
theorem r11_join : ∀ (ps : List Pl) (A : Option Addr) (c : Nat) (w : World), ps.length * 56 ≤ 140737488351232 → Pls.lies w w.heap.size ps A → CapsAt w ps A → Calls Tryz.prog 17 #[.string ln_join, .slice A ps.length c] w (ROut (toR (lRes (some 2) (lArgs2 lJoin) ps)) w) :=
  r11_op ln_join 2 (lArgs2 lJoin) may_join (fun ps hc hall hn A c w hlen hl hcaps => by
  obtain ⟨p, q, rfl⟩ := lenL2 (.inr (by rw [hc]))
  rw [show Pls.toVl [p, q] = [p.toVl, q.toVl] by simp [Pls.toVl]]
  show Calls Tryz.prog 17 _ w (ROut (toR (lJoin p.toVl q.toVl)) w)
  have hpq : p.mayB = true ∧ q.mayB = true := by simpa using hall
  obtain ⟨hp, hq⟩ := hpq
  by_cases hk : p.kind = 5 ∧ q.kind = 5
  · have he : toR (lJoin p.toVl q.toVl) = rWhole (p.list ++ q.list) := by
      unfold lJoin
      obtain ⟨e0, n0, m0⟩ := kind5 hp hk.1
      rw [e0]
      obtain ⟨e1, n1, m1⟩ := kind5 hq hk.2
      rw [e1]
      show toR (lMade (Pls.toVl p.list ++ Pls.toVl q.list)) = _
      rw [whole_made (norms_of (fun x hx => (List.mem_append.1 hx).elim (norms_mem n0 x) (norms_mem n1 x))), toVl_map (p.list ++ q.list), List.map_append, ← toVl_map, ← toVl_map]
    rw [he]
    exact ref11_good_join p q hall hk.1 hk.2 A c w hl
  · have he : toR (lJoin p.toVl q.toVl) = rBad 20 := by
      unfold lJoin
      by_cases g0 : p.kind = 5
      case neg => rw [kind_no5 g0]; first | exact toR_bad 20 (by decide) | (split <;> first | exact toR_bad 20 (by decide) | (exfalso; simp_all))
      by_cases g1 : q.kind = 5
      · exact absurd ⟨g0, g1⟩ hk
      · rw [kind_no5 g1]; first | exact toR_bad 20 (by decide) | (split <;> first | exact toR_bad 20 (by decide) | (exfalso; simp_all))
    rw [he]
    exact ref11_Work_kind ln_join [p, q] hn A c w hlen hl (fun w' h => by
      obtain ⟨b, o, rfl⟩ := h.head (by simp)
      exact kinds_join b o c p.kind q.kind w' (by simpa using kAt h 0 (by simp)) (by simpa using kAt h 1 (by simp)) false (by
        cases hd : (decide (p.kind = 5) && decide (q.kind = 5))
        · rfl
        · exact absurd (by simpa [and_assoc] using hd) hk)))
theorem r11_add : ∀ (ps : List Pl) (A : Option Addr) (c : Nat) (w : World), ps.length * 56 ≤ 140737488351232 → Pls.lies w w.heap.size ps A → CapsAt w ps A → Calls Tryz.prog 17 #[.string ln_add, .slice A ps.length c] w (ROut (toR (lRes (some 2) (lArgs2 lAdd) ps)) w) :=
  r11_op ln_add 2 (lArgs2 lAdd) may_add (fun ps hc hall hn A c w hlen hl hcaps => by
  obtain ⟨p, q, rfl⟩ := lenL2 (.inr (by rw [hc]))
  rw [show Pls.toVl [p, q] = [p.toVl, q.toVl] by simp [Pls.toVl]]
  show Calls Tryz.prog 17 _ w (ROut (toR (lAdd p.toVl q.toVl)) w)
  have hpq : p.mayB = true ∧ q.mayB = true := by simpa using hall
  obtain ⟨hp, hq⟩ := hpq
  by_cases hk : p.kind = 5
  · have he : toR (lAdd p.toVl q.toVl) = rWhole (p.list ++ [q]) := by
      unfold lAdd
      obtain ⟨e0, n0, m0⟩ := kind5 hp hk
      rw [e0]
      show toR (lMade (Pls.toVl p.list ++ [q.toVl])) = _
      rw [whole_made (norms_of (fun x hx => (List.mem_append.1 hx).elim (norms_mem n0 x) (fun h => by rw [List.mem_singleton.1 h]; exact mayB_norm hq))), toVl_map (p.list ++ [q]), List.map_append, ← toVl_map]
      rfl
    rw [he]
    exact ref11_good_add p q hall hk A c w hl
  · have he : toR (lAdd p.toVl q.toVl) = rBad 20 := by
      unfold lAdd
      rw [kind_no5 hk]
      exact toR_bad 20 (by decide)
    rw [he]
    exact ref11_Work_kind ln_add [p, q] hn A c w hlen hl (fun w' h => by
      obtain ⟨b, o, rfl⟩ := h.head (by simp)
      exact kinds_add b o c p.kind q.kind w' (by simpa using kAt h 0 (by simp)) (by simpa using kAt h 1 (by simp)) false (by
        cases hd : (decide (p.kind = 5))
        · rfl
        · exact absurd (by simpa [and_assoc] using hd) hk)))
theorem r11_cut : ∀ (ps : List Pl) (A : Option Addr) (c : Nat) (w : World), ps.length * 56 ≤ 140737488351232 → Pls.lies w w.heap.size ps A → CapsAt w ps A → Calls Tryz.prog 17 #[.string ln_cut, .slice A ps.length c] w (ROut (toR (lRes (some 3) (lArgs3 lCut) ps)) w) :=
  r11_op ln_cut 3 (lArgs3 lCut) may_cut (fun ps hc hall hn A c w hlen hl hcaps => by
  obtain ⟨p, q, r, rfl⟩ := lenL3 (.inr (by rw [hc]))
  rw [show Pls.toVl [p, q, r] = [p.toVl, q.toVl, r.toVl] by simp [Pls.toVl]]
  show Calls Tryz.prog 17 _ w (ROut (toR (lCut p.toVl q.toVl r.toVl)) w)
  have hpq : p.mayB = true ∧ q.mayB = true ∧ r.mayB = true := by simpa using hall
  obtain ⟨hp, hq, hr⟩ := hpq
  by_cases hk : p.kind = 5 ∧ q.kind = 3 ∧ r.kind = 3
  · have he : toR (lCut p.toVl q.toVl r.toVl) = rCutN p.list q.num r.num := by
      unfold lCut
      obtain ⟨e0, n0, m0⟩ := kind5 hp hk.1
      rw [e0]
      rw [kind3 hk.2.1]
      rw [kind3 hk.2.2]
      exact (r_cut n0 m0 q.num r.num).symm
    rw [he]
    exact ref11_good_cut p q r hall hk.1 hk.2.1 hk.2.2 A c w hl hcaps
  · have he : toR (lCut p.toVl q.toVl r.toVl) = rBad 20 := by
      unfold lCut
      by_cases g0 : p.kind = 5
      case neg => rw [kind_no5 g0]; first | exact toR_bad 20 (by decide) | (split <;> first | exact toR_bad 20 (by decide) | (exfalso; simp_all))
      by_cases g1 : q.kind = 3
      case neg => rw [kind_no3 g1]; first | exact toR_bad 20 (by decide) | (split <;> first | exact toR_bad 20 (by decide) | (exfalso; simp_all))
      by_cases g2 : r.kind = 3
      · exact absurd ⟨g0, g1, g2⟩ hk
      · rw [kind_no3 g2]; first | exact toR_bad 20 (by decide) | (split <;> first | exact toR_bad 20 (by decide) | (exfalso; simp_all))
    rw [he]
    exact ref11_Work_kind ln_cut [p, q, r] hn A c w hlen hl (fun w' h => by
      obtain ⟨b, o, rfl⟩ := h.head (by simp)
      exact kinds_cut b o c p.kind q.kind r.kind w' (by simpa using kAt h 0 (by simp)) (by simpa using kAt h 1 (by simp)) (by simpa using kAt h 2 (by simp)) false (by
        cases hd : (decide (p.kind = 5) && decide (q.kind = 3) && decide (r.kind = 3))
        · rfl
        · exact absurd (by simpa [and_assoc] using hd) hk)))
theorem r11_of (ps : List Pl) (A : Option Addr) (c : Nat) (w : World) (hlen : ps.length * 56 ≤ 140737488351232) (hl : Pls.lies w w.heap.size ps A) : Calls Tryz.prog 17 #[.string ln_of, .slice A ps.length c] w (ROut (toR (lRes none lMade ps)) w) := by
  have h := may_of ps
  unfold lRes
  rw [if_pos (.inl rfl)]
  by_cases ha : ps.all Pl.mayB = true
  · have ha' : ps.all Pl.ok = true := by rw [← ha]; exact List.all_congr rfl (fun p => (mayB_ok p).symm)
    rw [if_pos ha', ← whole_made (norms_all ha)]
    exact ref11_good_of ps ha A c w hlen hl
  · rw [if_neg ha] at h
    have ha' : ¬ ps.all Pl.ok = true := by intro hx; exact ha (by rw [← hx]; exact List.all_congr rfl (fun p => mayB_ok p))
    rw [if_neg ha', toR_bad 1 (by decide)]
    exact ref11_Work_no ln_of ps 1 h (by decide) A c w hlen hl
theorem ref11_Work (op : ByteArray) (ps : List Pl) (A : Option Addr) (c : Nat) (w : World) (hlen : ps.length * 56 ≤ 140737488351232) (hl : Pls.lies w w.heap.size ps A) (hcaps : CapsAt w ps A) : Calls Tryz.prog 17 #[.string op, .slice A ps.length c] w (ROut (toR (lWork op ps)) w) := by
  unfold lWork
  by_cases h0 : op = ln_of
  · subst h0; rw [if_pos rfl]; exact r11_of ps A c w hlen hl
  by_cases h1 : op = ln_size
  · subst h1; rw [if_neg (by decide), if_pos rfl]; exact r11_size ps A c w hlen hl hcaps
  by_cases h2 : op = ln_at
  · subst h2; rw [if_neg (by decide), if_neg (by decide), if_pos rfl]; exact r11_at ps A c w hlen hl hcaps
  by_cases h3 : op = ln_join
  · subst h3; rw [if_neg (by decide), if_neg (by decide), if_neg (by decide), if_pos rfl]; exact r11_join ps A c w hlen hl hcaps
  by_cases h4 : op = ln_add
  · subst h4; rw [if_neg (by decide), if_neg (by decide), if_neg (by decide), if_neg (by decide), if_pos rfl]; exact r11_add ps A c w hlen hl hcaps
  by_cases h5 : op = ln_cut
  · subst h5; rw [if_neg (by decide), if_neg (by decide), if_neg (by decide), if_neg (by decide), if_neg (by decide), if_pos rfl]; exact r11_cut ps A c w hlen hl hcaps
  by_cases h6 : op = ln_turn
  · subst h6; rw [if_neg (by decide), if_neg (by decide), if_neg (by decide), if_neg (by decide), if_neg (by decide), if_neg (by decide), if_pos rfl]; exact r11_turn ps A c w hlen hl hcaps
  by_cases h7 : op = ln_count
  · subst h7; rw [if_neg (by decide), if_neg (by decide), if_neg (by decide), if_neg (by decide), if_neg (by decide), if_neg (by decide), if_neg (by decide), if_pos rfl]; exact r11_count ps A c w hlen hl hcaps
  rw [if_neg h0, if_neg h1, if_neg h2, if_neg h3, if_neg h4, if_neg h5, if_neg h6, if_neg h7, toR_bad 1 (by decide)]
  exact ref11_Work_no op ps 1 (may_otherL h0 h1 h2 h3 h4 h5 h6 h7) (by decide) A c w hlen hl
end Go.Proofs.YtcldbjgikkfnbaaGreatDoor

/-
  espalierlaw11.ListWork, for any operations: it returns true. Conditions: they lie in memory; the lists' capacities are no less than their lengths.
-/
namespace Go.Proofs.YtcldbjgikkfnbaaGreatDoor
open Go.RowKit
set_option linter.unusedVariables false

/-- A result that the law's Fits can take. -/
def GoodR (r : Int × Vl) : Prop := r.1 = 0 → r.2.fine ∧ r.2.count ≤ 65536 ∧ r.2.dep ≤ 65
def ArgOk (x : Vl) : Prop := x.fine ∧ x.mayV = true
theorem fines_of : ∀ {l : List Vl}, (∀ x ∈ l, x.fine) → Vls.fine l
  | [], _ => by unfold Vls.fine; trivial
  | x :: xs, h => by unfold Vls.fine; exact ⟨h x (by simp), fines_of (fun y hy => h y (by simp [hy]))⟩
theorem fines_mem {l : List Vl} (h : Vls.fine l) : ∀ x ∈ l, x.fine := fun x hx => by
  obtain ⟨k, hk, rfl⟩ := List.getElem_of_mem hx
  exact h.at_ k hk
theorem goodR_bad (e : Int) : GoodR (lBad e) := fun _ => by
  unfold lBad
  show Vl.fine .unit ∧ Vl.count .unit ≤ 65536 ∧ Vl.dep .unit ≤ 65
  unfold Vl.fine Vl.count Vl.dep
  exact ⟨trivial, by decide, by decide⟩
theorem goodR_int {n : Int} (h : rng n = true) : GoodR (0, .int n) := fun _ => by
  show Vl.fine (.int n) ∧ Vl.count (.int n) ≤ 65536 ∧ Vl.dep (.int n) ≤ 65
  unfold Vl.fine Vl.count Vl.dep
  exact ⟨h, by decide, by decide⟩
theorem goodR_list {l : List Vl} (hf : ∀ x ∈ l, x.fine) (hm : (Vl.list l).mayV = true) : GoodR (0, .list l) := fun _ => by
  have hb := Vl.mayV_bounds hm
  refine ⟨?_, hb⟩
  show Vl.fine (.list l)
  unfold Vl.fine
  refine ⟨?_, fines_of hf⟩
  have h3 := Vls.len_count l
  have h2 := hb.1
  unfold Vl.count at h2
  omega
theorem goodR_made {l : List Vl} (hf : ∀ x ∈ l, x.fine) : GoodR (lMade l) := by
  unfold lMade
  by_cases hm : (Vl.list l).mayV = true
  · rw [if_pos hm]; exact goodR_list hf hm
  · rw [if_neg hm]; exact goodR_bad 2
theorem asList_eq {x : Vl} {l : List Vl} (h : x.asList = some l) : x = .list l := by
  cases x <;> simp [Vl.asList] at h
  subst h
  rfl
theorem argok_list {x : Vl} {l : List Vl} (hx : ArgOk x) (h : x.asList = some l) : (∀ y ∈ l, y.fine) ∧ l.length ≤ 140737488351232 ∧ (Vl.list l).mayV = true := by
  have := fine_at hx.1 h
  have h2 := hx.2
  rw [asList_eq h] at h2
  exact ⟨fines_mem this.2, this.1, h2⟩
theorem goodR_size {x : Vl} (hx : ArgOk x) : GoodR (lSize x) := by
  unfold lSize
  cases h : x.asList with
  | none => exact goodR_bad 20
  | some l =>
    obtain ⟨h1, h2, h3⟩ := argok_list hx h
    exact goodR_int (rng_iff.2 (by omega))
theorem goodR_turn {x : Vl} (hx : ArgOk x) : GoodR (lTurn x) := by
  unfold lTurn
  cases h : x.asList with
  | none => exact goodR_bad 20
  | some l =>
    obtain ⟨h1, h2, h3⟩ := argok_list hx h
    exact goodR_list (fun y hy => h1 y (List.mem_reverse.1 hy)) (may_reverse h3)
theorem goodR_count {x : Vl} (hx : ArgOk x) : GoodR (lCount x) := by
  unfold lCount
  cases h : x.asInt with
  | none => exact goodR_bad 20
  | some n =>
    show GoodR (lCountN n)
    unfold lCountN
    by_cases h0 : n < 0
    · rw [if_pos h0]; exact goodR_bad 23
    rw [if_neg h0]
    by_cases h1 : 65536 ≤ n
    · rw [if_pos h1]; exact goodR_bad 2
    rw [if_neg h1]
    refine goodR_made (fun y hy => ?_)
    unfold below at hy
    obtain ⟨k, hk, rfl⟩ := List.mem_map.1 hy
    have := List.mem_range.1 hk
    unfold Vl.fine
    exact rng_iff.2 (by omega)
theorem goodR_at {x y : Vl} (hx : ArgOk x) : GoodR (lAt x y) := by
  unfold lAt
  cases h : x.asList with
  | none => exact goodR_bad 20
  | some l =>
    cases h' : y.asInt with
    | none => exact goodR_bad 20
    | some n =>
      obtain ⟨h1, h2, h3⟩ := argok_list hx h
      show GoodR (lAtN l n)
      unfold lAtN
      by_cases h0 : 0 ≤ n
      · rw [if_pos h0]
        by_cases hlt : n.toNat < l.length
        · rw [List.getElem?_eq_getElem hlt]
          exact fun _ => ⟨h1 _ (List.getElem_mem hlt), one_of_may h3 _ hlt⟩
        · rw [List.getElem?_eq_none (by omega)]
          exact goodR_bad 23
      · rw [if_neg h0]; exact goodR_bad 23
theorem goodR_join {x y : Vl} (hx : ArgOk x) (hy : ArgOk y) : GoodR (lJoin x y) := by
  unfold lJoin
  cases h : x.asList with
  | none => exact goodR_bad 20
  | some l =>
    cases h' : y.asList with
    | none => exact goodR_bad 20
    | some m => exact goodR_made (fun z hz => (List.mem_append.1 hz).elim ((argok_list hx h).1 z) ((argok_list hy h').1 z))
theorem goodR_add {x y : Vl} (hx : ArgOk x) (hy : ArgOk y) : GoodR (lAdd x y) := by
  unfold lAdd
  cases h : x.asList with
  | none => exact goodR_bad 20
  | some l => exact goodR_made (fun z hz => (List.mem_append.1 hz).elim ((argok_list hx h).1 z) (fun h => by rw [List.mem_singleton.1 h]; exact hy.1))
theorem goodR_cut {x y z : Vl} (hx : ArgOk x) : GoodR (lCut x y z) := by
  unfold lCut
  cases h : x.asList with
  | none => exact goodR_bad 20
  | some l =>
    cases h' : y.asInt with
    | none => exact goodR_bad 20
    | some a =>
      cases h'' : z.asInt with
      | none => exact goodR_bad 20
      | some b =>
        obtain ⟨h1, h2, h3⟩ := argok_list hx h
        show GoodR (lCutN l a b)
        unfold lCutN
        by_cases h0 : 0 ≤ a ∧ a ≤ b ∧ b ≤ l.length
        · rw [if_pos h0]; exact goodR_list (fun y hy => h1 y (List.mem_of_mem_take (List.mem_of_mem_drop hy))) (may_piece h3 _ _)
        · rw [if_neg h0]; exact goodR_bad 23
theorem goodR_args1 {f : Vl → Int × Vl} (hf : ∀ x, ArgOk x → GoodR (f x)) (ps : List Pl) (h : ∀ p ∈ ps, ArgOk p.toVl) : GoodR (lArgs1 f (Pls.toVl ps)) := by
  rw [toVl_map]
  match ps, h with
  | [], _ => exact goodR_bad 11
  | [p], h => exact hf _ (h p (by simp))
  | p :: q :: r, _ => exact goodR_bad 11
theorem goodR_args2 {f : Vl → Vl → Int × Vl} (hf : ∀ x y, ArgOk x → ArgOk y → GoodR (f x y)) (ps : List Pl) (h : ∀ p ∈ ps, ArgOk p.toVl) : GoodR (lArgs2 f (Pls.toVl ps)) := by
  rw [toVl_map]
  match ps, h with
  | [], _ => exact goodR_bad 11
  | [p], _ => exact goodR_bad 11
  | [p, q], h => exact hf _ _ (h p (by simp)) (h q (by simp))
  | p :: q :: r :: _, _ => exact goodR_bad 11
theorem goodR_args3 {f : Vl → Vl → Vl → Int × Vl} (hf : ∀ x y z, ArgOk x → ArgOk y → ArgOk z → GoodR (f x y z)) (ps : List Pl) (h : ∀ p ∈ ps, ArgOk p.toVl) : GoodR (lArgs3 f (Pls.toVl ps)) := by
  rw [toVl_map]
  match ps, h with
  | [], _ => exact goodR_bad 11
  | [p], _ => exact goodR_bad 11
  | [p, q], _ => exact goodR_bad 11
  | [p, q, r], h => exact hf _ _ _ (h p (by simp)) (h q (by simp)) (h r (by simp))
  | p :: q :: r :: _ :: _, _ => exact goodR_bad 11
theorem goodR_lRes {n : Option Nat} {f : List Vl → Int × Vl} {ps : List Pl} (hfi : ∀ p ∈ ps, p.toVl.fine) (h : (∀ p ∈ ps, ArgOk p.toVl) → GoodR (f (Pls.toVl ps))) : GoodR (lRes n f ps) := by
  unfold lRes
  split
  · split
    · rename_i ha
      exact h (fun p hp => ⟨hfi p hp, mayB_mayV (by rw [mayB_ok]; exact List.all_eq_true.1 ha p hp)⟩)
    · exact goodR_bad 1
  · exact goodR_bad 11
theorem goodR_lWork (op : ByteArray) (ps : List Pl) (hfi : ∀ p ∈ ps, p.toVl.fine) : GoodR (lWork op ps) := by
  unfold lWork
  split
  · exact goodR_lRes hfi (fun h => goodR_made (fun x hx => by
      rw [toVl_map] at hx
      obtain ⟨p, hp, rfl⟩ := List.mem_map.1 hx
      exact hfi p hp))
  split
  · exact goodR_lRes hfi (goodR_args1 (fun x hx => goodR_size hx) ps)
  split
  · exact goodR_lRes hfi (goodR_args2 (fun x y hx _ => goodR_at hx) ps)
  split
  · exact goodR_lRes hfi (goodR_args2 (fun x y hx hy => goodR_join hx hy) ps)
  split
  · exact goodR_lRes hfi (goodR_args2 (fun x y hx hy => goodR_add hx hy) ps)
  split
  · exact goodR_lRes hfi (goodR_args3 (fun x y z hx _ _ => goodR_cut hx) ps)
  split
  · exact goodR_lRes hfi (goodR_args1 (fun x hx => goodR_turn hx) ps)
  split
  · exact goodR_lRes hfi (goodR_args1 (fun x hx => goodR_count hx) ps)
  · exact goodR_bad 1
theorem list_works (op : ByteArray) (ps : List Pl) (A : Option Addr) (c : Nat) (w : World) (hlen : ps.length * 56 ≤ 140737488351232) (hl : Pls.lies w w.heap.size ps A) (hcaps : CapsAt w ps A) : Calls Tryz.prog 9 #[.agg #[.string op, .slice A ps.length c]] w (Bel (.bool true) w) := by
  have hg := goodR_lWork op ps (plies_fine hl)
  generalize hr : lWork op ps = r at hg
  refine law11_works op ps A c w hlen hl hcaps (R := fun v n s w1 => n = r.1 ∧ s = ⟨#[]⟩ ∧ (r.1 = 0 → ∃ S : Nat → Prop, (∀ b, S b → b < w1.heap.size) ∧ r.2.is w1 S v) ∧ (r.1 ≠ 0 → v = .nilIface)) (R' := fun p A' c' n s w2 => p = (toR r).2 ∧ n = r.1 ∧ s = ⟨#[]⟩ ∧ Pls.lies w2 w2.heap.size p.list A') ?_ ?_ ?_
  · intro _ A c w h
    refine (list_Work op ps A c w hlen h).mono ?_
    rw [hr]
    rintro e w' ⟨v, rfl, h1, h2, hb⟩
    exact ⟨_, _, _, rfl, ⟨rfl, rfl, fun h0 => ⟨_, fun b hb => hb.2, (h1 h0).is⟩, h2⟩, hb⟩
  · intro _ A c w h hcp
    refine (ref11_Work op ps A c w hlen h hcp).mono ?_
    rw [hr]
    rintro e w' ⟨A', c', rfl, hl, hb⟩
    exact ⟨_, A', c', _, _, rfl, ⟨rfl, rfl, rfl, hl⟩, hb⟩
  · rintro v n s p A' c' n' s' w1 w2 w3 ⟨rfl, rfl, h1, h2⟩ h12 ⟨rfl, rfl, rfl, hl⟩ h23
    refine ⟨rfl, ?_⟩
    by_cases h0 : r.1 = 0
    · obtain ⟨S, hS, hv⟩ := h1 h0
      obtain ⟨hf, hc, hd⟩ := hg h0
      have e : (toR r).2 = r.2.toPl := by unfold toR; rw [if_pos h0]
      rw [e] at hl ⊢
      rw [h0]
      have hs2 := h12.size
      have hs3 := h23.size
      refine law2_Fits r.2 v S w3 (hv.keep (fun b o hs => ?_) (fun _ h => h)) (fun b hb => by have := hS b hb; omega) hf (by omega) (by omega) A' c' (hl.below h23 h23.size)
      have hb := hS b hs
      exact (h23.cell (p := ⟨b, o, none⟩) (by show b < _; omega)).trans (h12.cell (p := ⟨b, o, none⟩) hb)
    · rw [h2 h0]
      exact law2_Fits_fault r.1 h0 _ w3 A' c'
theorem law_ListWork (n : Nat) (A : Option Addr) (c : Nat) (w : World) (hA : 0 < n → ∃ b o, A = some ⟨b, o, none⟩ ∧ ∀ k, k < n → ∃ op ps A c, CallAt w b (o + k * 2) op ps A c ∧ CapsAt w ps A) :
    Calls Tryz.prog 3 #[.slice A n c] w (Bel (.bool true) w) := law11_ops list_works n A c w hA
end Go.Proofs.YtcldbjgikkfnbaaGreatDoor
