/-
  espalierlaw10's small functions, words1, nums1; words.Work at scalars: walks. Conditions: numbers of 64 bits, texts within a row's reach.
-/
import Derived.Test.YthjpphojddbbmaaGreatDoorCWordsDo
import Derived.Test.YthjpphojddbbmaaGreatDoorCBase
namespace Go.Proofs.YthjpphojddbbmaaGreatDoor
open Go.RowKit
set_option linter.unusedVariables false
set_option linter.unusedSimpArgs false

def tP (s : ByteArray) : Pl := .mk 4 0 s []
def nP (n : Int) : Pl := .mk 3 n ⟨#[]⟩ []
theorem law10_text (s : ByteArray) (w : World) : Calls Tryz.prog 15 #[.string s] w (Bel (.agg #[.int .i64 4, .int .i64 0, .string s, .slice none 0 0]) w) := by
  have HB := Lib.hid ((Below.refl w.heap.size w).alloc (Nat.le_refl _) (.cells #[.int .i64 4, .int .i64 0, .string s, .slice none 0 0] 34))
  go_enter Tryz.func15, Tryz.ntmps15
  go_wp2
  exact bodyPost_ret (fn := Tryz.f15) (v := .agg #[.int .i64 4, .int .i64 0, .string s, .slice none 0 0]) (results_cell (p := 2) (ty := 34) (a := ⟨w.heap.size, 0, none⟩) Tryz.results15 rfl (run_loadVar_row (P := Tryz.prog) _ _ _ 34 _ _ _ (heap_alloc_new w _) Tryz.underlying34 rfl (by kernel_rfl))) rfl ⟨rfl, HB.out⟩
theorem law10_num (n : Int) (w : World) : Calls Tryz.prog 17 #[.int .i64 n] w (Bel (.agg #[.int .i64 3, .int .i64 n, .string ⟨#[]⟩, .slice none 0 0]) w) := by
  have HB := Lib.hid ((Below.refl w.heap.size w).alloc (Nat.le_refl _) (.cells #[.int .i64 3, .int .i64 n, .string ⟨#[]⟩, .slice none 0 0] 34))
  go_enter Tryz.func17, Tryz.ntmps17
  go_wp2
  exact bodyPost_ret (fn := Tryz.f17) (v := .agg #[.int .i64 3, .int .i64 n, .string ⟨#[]⟩, .slice none 0 0]) (results_cell (p := 2) (ty := 34) (a := ⟨w.heap.size, 0, none⟩) Tryz.results17 rfl (run_loadVar_row (P := Tryz.prog) _ _ _ 34 _ _ _ (heap_alloc_new w _) Tryz.underlying34 rfl (by kernel_rfl))) rfl ⟨rfl, HB.out⟩
def T1 (s : ByteArray) (n : Int) : Value := .tuple #[.string s, .int .i64 n]
def N1 (k n : Int) : Value := .tuple #[.int .i64 k, .int .i64 n]
/-- What words1, nums1 make of an answer. -/
def OutT (res out : Value) : Prop := (∃ t, res = wText t ∧ out = T1 t 0) ∨ (∃ n, n ≠ 0 ∧ res = wFault n ∧ out = T1 ⟨#[]⟩ n)
def OutN (res out : Value) : Prop := (∃ k, res = wInt k ∧ out = N1 k 0) ∨ (∃ n, n ≠ 0 ∧ res = wFault n ∧ out = N1 0 n)
theorem nilno_Text (w : World) : (Instr.typeAssert .nilIface 29 77 true).run Tryz.prog w = .ok (.tuple #[.string ⟨#[]⟩, .bool false]) w := by kernel_rfl
theorem nilno_Int (w : World) : (Instr.typeAssert .nilIface 29 75 true).run Tryz.prog w = .ok (.tuple #[.int .i64 0, .bool false]) w := by kernel_rfl
theorem law10_words1 {op : ByteArray} {v : Value} {w : World} {res out : Value} (hK : Calls Tryz.prog 10 #[.string op, v] w (Bel res w)) (h : OutT res out) : Calls Tryz.prog 16 #[.string op, v] w (Bel out w) := by
  have HK := Lib.hid hK
  clear hK
  rcases h with ⟨t, rfl, rfl⟩ | ⟨n, hn, rfl, rfl⟩
  · have a1 := pf_as_Text (.string t)
    unfold wText at HK
    go_enter Tryz.func16, Tryz.ntmps16
    go_wp2_with fail
    refine HK.out.mono ?_
    rintro e w1 ⟨rfl, hb⟩
    have HB := Lib.hid hb
    clear hb
    go_wp2
    go_ret2
    exact ⟨rfl, HB.out⟩
  · have a1 := nilno_Text
    have hb0 : (n == 0) = false := by simpa using hn
    unfold wFault at HK
    clear hn
    go_enter Tryz.func16, Tryz.ntmps16
    go_wp2_with fail
    refine HK.out.mono ?_
    rintro e w1 ⟨rfl, hb⟩
    have HB := Lib.hid hb
    clear hb
    go_wp2
    go_ret2
    exact ⟨rfl, HB.out⟩
theorem law10_nums1 {op : ByteArray} {v : Value} {w : World} {res out : Value} (hK : Calls Tryz.prog 10 #[.string op, v] w (Bel res w)) (h : OutN res out) : Calls Tryz.prog 14 #[.string op, v] w (Bel out w) := by
  have HK := Lib.hid hK
  clear hK
  rcases h with ⟨t, rfl, rfl⟩ | ⟨n, hn, rfl, rfl⟩
  · have a1 := pf_as_Int (.int .i64 t)
    unfold wInt at HK
    go_enter Tryz.func14, Tryz.ntmps14
    go_wp2_with fail
    refine HK.out.mono ?_
    rintro e w1 ⟨rfl, hb⟩
    have HB := Lib.hid hb
    clear hb
    go_wp2
    go_ret2
    exact ⟨rfl, HB.out⟩
  · have a1 := nilno_Int
    have hb0 : (n == 0) = false := by simpa using hn
    unfold wFault at HK
    clear hn
    go_enter Tryz.func14, Tryz.ntmps14
    go_wp2_with fail
    refine HK.out.mono ?_
    rintro e w1 ⟨rfl, hb⟩
    have HB := Lib.hid hb
    clear hb
    go_wp2
    go_ret2
    exact ⟨rfl, HB.out⟩
theorem scal_lies (ps : List Pl) (hs : ∀ p ∈ ps, p.sane ∧ p.list = []) (W : World) (cs : Array Value) (hcs : cs = (ps.flatMap fun p => p.cells4 none 0).toArray) (T : TypeId) :
    Pls.lies (W.alloc (.cells cs T)) (W.alloc (.cells cs T)).heap.size ps (some ⟨W.heap.size, 0, none⟩) := by
  have e : (ps.map fun p => (⟨p, none, 0⟩ : PlAt)).map PlAt.p = ps := by rw [List.map_map]; exact List.map_id ps
  have h := plies_of (w := W.alloc (.cells cs T)) (B := (W.alloc (.cells cs T)).heap.size) (b := W.heap.size) (by simp) (ps.map fun p => (⟨p, none, 0⟩ : PlAt)) 0 (fun k hk j u hj => by
      rw [Nat.zero_add, World.cell?_alloc_new, hcs]
      have hj4 : j < 4 := by
        rcases Nat.lt_or_ge j 4 with h | h
        · exact h
        · rw [List.getElem?_eq_none (by exact h)] at hj; cases hj
      have hf : (ps.flatMap fun p => p.cells4 none 0) = (ps.map fun p => (⟨p, none, 0⟩ : PlAt)).flatMap PlAt.cells := by rw [List.flatMap_map]; rfl
      rw [hf, List.getElem?_toArray, plat_flat _ k hk j hj4]
      exact hj) (fun x hx => by
      obtain ⟨p, hp, rfl⟩ := List.mem_map.1 hx
      refine ⟨(hs p hp).1, ?_⟩
      show Pls.lies _ _ p.list none
      rw [(hs p hp).2]
      unfold Pls.lies; trivial)
  rw [e] at h
  exact h
theorem sane_tP {s : ByteArray} (hs : s.size ≤ 140737488351232) : (tP s).sane ∧ (tP s).list = [] := ⟨⟨by rfl, by rfl, hs, by show 0 * 56 ≤ _; omega⟩, rfl⟩
theorem sane_nP {n : Int} (hn : rng n = true) : (nP n).sane ∧ (nP n).list = [] := ⟨⟨by rfl, hn, by show (0 : Nat) ≤ _; omega, by show 0 * 56 ≤ _; omega⟩, rfl⟩
theorem tP_toVl (s : ByteArray) : (tP s).toVl = .text s := by unfold tP; rw [toVl_mk]; rfl
theorem nP_toVl (n : Int) : (nP n).toVl = .int n := by unfold nP; rw [toVl_mk]; rfl
theorem may_tP (s : ByteArray) : (tP s).mayB = decide (s.size ≤ 65535) := by
  unfold Pl.mayB tP Pl.left
  by_cases h : s.size ≤ 65535
  · rw [if_neg (by rintro (h1 | h1); simp [goodB] at h1; omega)]
    unfold Pls.left
    simp [h]; omega
  · rw [if_pos (by right; omega)]
    simp [h]
theorem may_nP (n : Int) : (nP n).mayB = true := by
  have hg : goodB 3 n ⟨#[]⟩ ([] : List Pl).length 0 = true := by rfl
  unfold Pl.mayB nP Pl.left
  rw [hg, if_neg (by rintro (h1 | h1); cases h1; exact absurd h1 (by decide))]
  unfold Pls.left
  decide
theorem wres_yes {n : Nat} {r : Value} {ps : List Pl} (h : ps.length = n) : wRes n true r ps = if ps.all Pl.mayB = true then r else wFault 1 := by unfold wRes; rw [if_pos h]; rfl
theorem wres_no {n : Nat} {r : Value} {ps : List Pl} (h : ps.length = n) (ha : ps.all Pl.mayB = true) : wRes n false r ps = wFault 20 := by unfold wRes; rw [if_pos h, if_pos ha]; rfl
theorem pAt_0 (p : Pl) (ps : List Pl) : pAt (p :: ps) 0 = p.toVl := rfl
theorem pAt_1 (p q : Pl) (ps : List Pl) : pAt (p :: q :: ps) 1 = q.toVl := rfl
theorem pAt_2 (p q r : Pl) (ps : List Pl) : pAt (p :: q :: r :: ps) 2 = r.toVl := rfl
theorem sc_join (s t : ByteArray) (hs : s.size ≤ 65535) (ht : t.size ≤ 65535) : wRes 2 (wq_join [tP s, tP t]) (wr_join [tP s, tP t]) [tP s, tP t] = wJoinV s t := by
  have hq : wq_join [tP s, tP t] = true := by unfold wq_join; rw [pAt_0, pAt_1, tP_toVl, tP_toVl]; rfl
  have hr : wr_join [tP s, tP t] = wJoinV s t := by unfold wr_join; rw [pAt_0, pAt_1, tP_toVl, tP_toVl]; rfl
  rw [hq, hr]; exact (wres_yes (by rfl)).trans (if_pos (by simp [may_tP, hs, ht]))
theorem sc_joinx (s : ByteArray) (n : Int) (hs : s.size ≤ 65535) : wRes 2 (wq_join [tP s, nP n]) (wr_join [tP s, nP n]) [tP s, nP n] = wFault 20 := by
  have hq : wq_join [tP s, nP n] = false := by unfold wq_join; rw [pAt_0, pAt_1, tP_toVl, nP_toVl]; rfl
  rw [hq]; exact wres_no (by rfl) (by simp [may_tP, may_nP, hs])
theorem sc_size (s : ByteArray) : wRes 1 (wq_size [tP s]) (wr_size [tP s]) [tP s] = if s.size ≤ 65535 then wInt s.size else wFault 1 := by
  have hq : wq_size [tP s] = true := by unfold wq_size; rw [pAt_0, tP_toVl]; rfl
  have hr : wr_size [tP s] = wInt s.size := by unfold wr_size; rw [pAt_0, tP_toVl]; rfl
  rw [hq, hr]
  refine (wres_yes (by rfl)).trans ?_
  by_cases h : s.size ≤ 65535
  · rw [if_pos h, if_pos (by simp [may_tP, h])]
  · rw [if_neg h, if_neg (by simp [may_tP]; omega)]
theorem sc_cut (s : ByteArray) (x y : Int) (hs : s.size ≤ 65535) : wRes 3 (wq_cut [tP s, nP x, nP y]) (wr_cut [tP s, nP x, nP y]) [tP s, nP x, nP y] = wCutV s x y := by
  have hq : wq_cut [tP s, nP x, nP y] = true := by unfold wq_cut; rw [pAt_0, pAt_1, pAt_2, tP_toVl, nP_toVl, nP_toVl]; rfl
  have hr : wr_cut [tP s, nP x, nP y] = wCutV s x y := by unfold wr_cut; rw [pAt_0, pAt_1, pAt_2, tP_toVl, nP_toVl, nP_toVl]; rfl
  rw [hq, hr]; exact (wres_yes (by rfl)).trans (if_pos (by simp [may_tP, may_nP, hs]))
theorem sc_find (s t : ByteArray) (hs : s.size ≤ 65535) (ht : t.size ≤ 65535) : wRes 2 (wq_find [tP s, tP t]) (wr_find [tP s, tP t]) [tP s, tP t] = wInt (Lib.index s.data.toList t.data.toList) := by
  have hq : wq_find [tP s, tP t] = true := by unfold wq_find; rw [pAt_0, pAt_1, tP_toVl, tP_toVl]; rfl
  have hr : wr_find [tP s, tP t] = wInt (Lib.index s.data.toList t.data.toList) := by unfold wr_find; rw [pAt_0, pAt_1, tP_toVl, tP_toVl]; rfl
  rw [hq, hr]; exact (wres_yes (by rfl)).trans (if_pos (by simp [may_tP, hs, ht]))
theorem sc_findx (s t : ByteArray) (hs : s.size ≤ 65535) (ht : ¬ t.size ≤ 65535) : wRes 2 (wq_find [tP s, tP t]) (wr_find [tP s, tP t]) [tP s, tP t] = wFault 1 := by
  have hq : wq_find [tP s, tP t] = true := by unfold wq_find; rw [pAt_0, pAt_1, tP_toVl, tP_toVl]; rfl
  rw [hq]; exact (wres_yes (by rfl)).trans (if_neg (by simp [may_tP, hs]; omega))
theorem sc_rep (s : ByteArray) (n : Int) (hs : s.size ≤ 65535) : wRes 2 (wq_rep [tP s, nP n]) (wr_rep [tP s, nP n]) [tP s, nP n] = wRep s n := by
  have hq : wq_rep [tP s, nP n] = true := by unfold wq_rep; rw [pAt_0, pAt_1, tP_toVl, nP_toVl]; rfl
  have hr : wr_rep [tP s, nP n] = wRep s n := by unfold wr_rep; rw [pAt_0, pAt_1, tP_toVl, nP_toVl]; rfl
  rw [hq, hr]; exact (wres_yes (by rfl)).trans (if_pos (by simp [may_tP, may_nP, hs]))
theorem sc_less (s t : ByteArray) (hs : s.size ≤ 65535) (ht : t.size ≤ 65535) : wRes 2 (wq_less [tP s, tP t]) (wr_less [tP s, tP t]) [tP s, tP t] = wTruth (Op.bytesLess s.toList t.toList) := by
  have hq : wq_less [tP s, tP t] = true := by unfold wq_less; rw [pAt_0, pAt_1, tP_toVl, tP_toVl]; rfl
  have hr : wr_less [tP s, tP t] = wTruth (Op.bytesLess s.toList t.toList) := by unfold wr_less; rw [pAt_0, pAt_1, tP_toVl, tP_toVl]; rfl
  rw [hq, hr]; exact (wres_yes (by rfl)).trans (if_pos (by simp [may_tP, hs, ht]))
theorem sc_of (n : Int) : wRes 1 (wq_of [nP n]) (wr_of [nP n]) [nP n] = wText ⟨(Lib.itoa n).toArray⟩ := by
  have hq : wq_of [nP n] = true := by unfold wq_of; rw [pAt_0, nP_toVl]; rfl
  have hr : wr_of [nP n] = wText ⟨(Lib.itoa n).toArray⟩ := by unfold wr_of; rw [pAt_0, nP_toVl]; rfl
  rw [hq, hr]; exact (wres_yes (by rfl)).trans (if_pos (by simp [may_nP]))
theorem sc_num (s : ByteArray) (hs : s.size ≤ 65535) : wRes 1 (wq_num [tP s]) (wr_num [tP s]) [tP s] = wNum s := by
  have hq : wq_num [tP s] = true := by unfold wq_num; rw [pAt_0, tP_toVl]; rfl
  have hr : wr_num [tP s] = wNum s := by unfold wr_num; rw [pAt_0, tP_toVl]; rfl
  rw [hq, hr]; exact (wres_yes (by rfl)).trans (if_pos (by simp [may_tP, hs]))
/-- A text's cells, a number's. -/
def LT (s : ByteArray) : List Value := [.int .i64 4, .int .i64 0, .string s, .slice none 0 0]
def LN (n : Int) : List Value := [.int .i64 3, .int .i64 n, .string ⟨#[]⟩, .slice none 0 0]
theorem c_join (s t : ByteArray) (hs : s.size ≤ 65535) (ht : t.size ≤ 65535) {out : Value} (h : OutT (wJoinV s t) out) (W : World) (hW : Ws W) :
    Calls Tryz.prog 16 #[.string wn_join, .slice (some ⟨W.heap.size, 0, none⟩) 2 2] (W.alloc (.cells #[.int .i64 4, .int .i64 0, .string s, .slice none 0 0, .int .i64 4, .int .i64 0, .string t, .slice none 0 0] 34)) (Bel out (W.alloc (.cells #[.int .i64 4, .int .i64 0, .string s, .slice none 0 0, .int .i64 4, .int .i64 0, .string t, .slice none 0 0] 34))) := by
  have hB := (Below.refl W.heap.size W).alloc (Nat.le_refl _) (.cells #[.int .i64 4, .int .i64 0, .string s, .slice none 0 0, .int .i64 4, .int .i64 0, .string t, .slice none 0 0] 34)
  have K := w_Work_join [tP s, tP t] (some ⟨W.heap.size, 0, none⟩) 2 _ (by simp) (scal_lies [tP s, tP t] (by intro p hp; simp at hp; rcases hp with rfl | rfl; exact sane_tP (by omega); exact sane_tP (by omega)) W _ (by rfl) 34) (hW.below hB)
  rw [sc_join s t hs ht] at K
  exact law10_words1 K h
theorem c_joinx (s : ByteArray) (n : Int) (hs : s.size ≤ 65535) (hn : rng n = true) (W : World) (hW : Ws W) :
    Calls Tryz.prog 16 #[.string wn_join, .slice (some ⟨W.heap.size, 0, none⟩) 2 2] (W.alloc (.cells #[.int .i64 4, .int .i64 0, .string s, .slice none 0 0, .int .i64 3, .int .i64 n, .string ⟨#[]⟩, .slice none 0 0] 34)) (Bel (T1 ⟨#[]⟩ 20) (W.alloc (.cells #[.int .i64 4, .int .i64 0, .string s, .slice none 0 0, .int .i64 3, .int .i64 n, .string ⟨#[]⟩, .slice none 0 0] 34))) := by
  have hB := (Below.refl W.heap.size W).alloc (Nat.le_refl _) (.cells #[.int .i64 4, .int .i64 0, .string s, .slice none 0 0, .int .i64 3, .int .i64 n, .string ⟨#[]⟩, .slice none 0 0] 34)
  have K := w_Work_join [tP s, nP n] (some ⟨W.heap.size, 0, none⟩) 2 _ (by simp) (scal_lies [tP s, nP n] (by intro p hp; simp at hp; rcases hp with rfl | rfl; exact sane_tP (by omega); exact sane_nP hn) W _ (by rfl) 34) (hW.below hB)
  rw [sc_joinx s n hs] at K
  exact law10_words1 K (.inr ⟨20, by decide, rfl, rfl⟩)
theorem c_cut (s : ByteArray) (x y : Int) (hs : s.size ≤ 65535) (hx : rng x = true) (hy : rng y = true) {out : Value} (h : OutT (wCutV s x y) out) (W : World) (hW : Ws W) :
    Calls Tryz.prog 16 #[.string wn_cut, .slice (some ⟨W.heap.size, 0, none⟩) 3 3] (W.alloc (.cells #[.int .i64 4, .int .i64 0, .string s, .slice none 0 0, .int .i64 3, .int .i64 x, .string ⟨#[]⟩, .slice none 0 0, .int .i64 3, .int .i64 y, .string ⟨#[]⟩, .slice none 0 0] 34)) (Bel out (W.alloc (.cells #[.int .i64 4, .int .i64 0, .string s, .slice none 0 0, .int .i64 3, .int .i64 x, .string ⟨#[]⟩, .slice none 0 0, .int .i64 3, .int .i64 y, .string ⟨#[]⟩, .slice none 0 0] 34))) := by
  have hB := (Below.refl W.heap.size W).alloc (Nat.le_refl _) (.cells #[.int .i64 4, .int .i64 0, .string s, .slice none 0 0, .int .i64 3, .int .i64 x, .string ⟨#[]⟩, .slice none 0 0, .int .i64 3, .int .i64 y, .string ⟨#[]⟩, .slice none 0 0] 34)
  have K := w_Work_cut [tP s, nP x, nP y] (some ⟨W.heap.size, 0, none⟩) 3 _ (by simp) (scal_lies [tP s, nP x, nP y] (by intro p hp; simp at hp; rcases hp with rfl | rfl | rfl; exact sane_tP (by omega); exact sane_nP hx; exact sane_nP hy) W _ (by rfl) 34) (hW.below hB)
  rw [sc_cut s x y hs] at K
  exact law10_words1 K h
theorem c_rep (s : ByteArray) (x : Int) (hs : s.size ≤ 65535) (hx : rng x = true) {out : Value} (h : OutT (wRep s x) out) (W : World) (hW : Ws W) :
    Calls Tryz.prog 16 #[.string wn_rep, .slice (some ⟨W.heap.size, 0, none⟩) 2 2] (W.alloc (.cells #[.int .i64 4, .int .i64 0, .string s, .slice none 0 0, .int .i64 3, .int .i64 x, .string ⟨#[]⟩, .slice none 0 0] 34)) (Bel out (W.alloc (.cells #[.int .i64 4, .int .i64 0, .string s, .slice none 0 0, .int .i64 3, .int .i64 x, .string ⟨#[]⟩, .slice none 0 0] 34))) := by
  have hB := (Below.refl W.heap.size W).alloc (Nat.le_refl _) (.cells #[.int .i64 4, .int .i64 0, .string s, .slice none 0 0, .int .i64 3, .int .i64 x, .string ⟨#[]⟩, .slice none 0 0] 34)
  have K := w_Work_rep [tP s, nP x] (some ⟨W.heap.size, 0, none⟩) 2 _ (by simp) (scal_lies [tP s, nP x] (by intro p hp; simp at hp; rcases hp with rfl | rfl; exact sane_tP (by omega); exact sane_nP hx) W _ (by rfl) 34) (hW.below hB)
  rw [sc_rep s x hs] at K
  exact law10_words1 K h
theorem c_of (x : Int) (hx : rng x = true) (W : World) (hW : Ws W) :
    Calls Tryz.prog 16 #[.string wn_of, .slice (some ⟨W.heap.size, 0, none⟩) 1 1] (W.alloc (.cells #[.int .i64 3, .int .i64 x, .string ⟨#[]⟩, .slice none 0 0] 34)) (Bel (T1 ⟨(Lib.itoa x).toArray⟩ 0) (W.alloc (.cells #[.int .i64 3, .int .i64 x, .string ⟨#[]⟩, .slice none 0 0] 34))) := by
  have hB := (Below.refl W.heap.size W).alloc (Nat.le_refl _) (.cells #[.int .i64 3, .int .i64 x, .string ⟨#[]⟩, .slice none 0 0] 34)
  have K := w_Work_of [nP x] (some ⟨W.heap.size, 0, none⟩) 1 _ (by simp) (scal_lies [nP x] (by intro p hp; simp at hp; rcases hp with rfl; exact sane_nP hx) W _ (by rfl) 34) (hW.below hB)
  rw [sc_of x] at K
  exact law10_words1 K (.inl ⟨_, rfl, rfl⟩)
theorem c_num (s : ByteArray) (hs : s.size ≤ 65535) {out : Value} (h : OutN (wNum s) out) (W : World) (hW : Ws W) :
    Calls Tryz.prog 14 #[.string wn_num, .slice (some ⟨W.heap.size, 0, none⟩) 1 1] (W.alloc (.cells #[.int .i64 4, .int .i64 0, .string s, .slice none 0 0] 34)) (Bel out (W.alloc (.cells #[.int .i64 4, .int .i64 0, .string s, .slice none 0 0] 34))) := by
  have hB := (Below.refl W.heap.size W).alloc (Nat.le_refl _) (.cells #[.int .i64 4, .int .i64 0, .string s, .slice none 0 0] 34)
  have K := w_Work_num [tP s] (some ⟨W.heap.size, 0, none⟩) 1 _ (by simp) (scal_lies [tP s] (by intro p hp; simp at hp; rcases hp with rfl; exact sane_tP (by omega)) W _ (by rfl) 34) (hW.below hB)
  rw [sc_num s hs] at K
  exact law10_nums1 K h
theorem c_size (s : ByteArray) (hs : s.size ≤ 140737488351232) {out : Value} (h : OutN (if s.size ≤ 65535 then wInt s.size else wFault 1) out) (W : World) (hW : Ws W) :
    Calls Tryz.prog 14 #[.string wn_size, .slice (some ⟨W.heap.size, 0, none⟩) 1 1] (W.alloc (.cells #[.int .i64 4, .int .i64 0, .string s, .slice none 0 0] 34)) (Bel out (W.alloc (.cells #[.int .i64 4, .int .i64 0, .string s, .slice none 0 0] 34))) := by
  have hB := (Below.refl W.heap.size W).alloc (Nat.le_refl _) (.cells #[.int .i64 4, .int .i64 0, .string s, .slice none 0 0] 34)
  have K := w_Work_size [tP s] (some ⟨W.heap.size, 0, none⟩) 1 _ (by simp) (scal_lies [tP s] (by intro p hp; simp at hp; rcases hp with rfl; exact sane_tP (by omega)) W _ (by rfl) 34) (hW.below hB)
  rw [sc_size s] at K
  exact law10_nums1 K h
theorem c_find (s t : ByteArray) (hs : s.size ≤ 65535) (ht : t.size ≤ 65535) (W : World) (hW : Ws W) :
    Calls Tryz.prog 14 #[.string wn_find, .slice (some ⟨W.heap.size, 0, none⟩) 2 2] (W.alloc (.cells #[.int .i64 4, .int .i64 0, .string s, .slice none 0 0, .int .i64 4, .int .i64 0, .string t, .slice none 0 0] 34)) (Bel (N1 (Lib.index s.data.toList t.data.toList) 0) (W.alloc (.cells #[.int .i64 4, .int .i64 0, .string s, .slice none 0 0, .int .i64 4, .int .i64 0, .string t, .slice none 0 0] 34))) := by
  have hB := (Below.refl W.heap.size W).alloc (Nat.le_refl _) (.cells #[.int .i64 4, .int .i64 0, .string s, .slice none 0 0, .int .i64 4, .int .i64 0, .string t, .slice none 0 0] 34)
  have K := w_Work_find [tP s, tP t] (some ⟨W.heap.size, 0, none⟩) 2 _ (by simp) (scal_lies [tP s, tP t] (by intro p hp; simp at hp; rcases hp with rfl | rfl; exact sane_tP (by omega); exact sane_tP (by omega)) W _ (by rfl) 34) (hW.below hB)
  rw [sc_find s t hs ht] at K
  exact law10_nums1 K (.inl ⟨_, rfl, rfl⟩)
theorem c_findx (s t : ByteArray) (hs : s.size ≤ 65535) (ht : ¬ t.size ≤ 65535) (ht2 : t.size ≤ 140737488351232) (W : World) (hW : Ws W) :
    Calls Tryz.prog 14 #[.string wn_find, .slice (some ⟨W.heap.size, 0, none⟩) 2 2] (W.alloc (.cells #[.int .i64 4, .int .i64 0, .string s, .slice none 0 0, .int .i64 4, .int .i64 0, .string t, .slice none 0 0] 34)) (Bel (N1 0 1) (W.alloc (.cells #[.int .i64 4, .int .i64 0, .string s, .slice none 0 0, .int .i64 4, .int .i64 0, .string t, .slice none 0 0] 34))) := by
  have hB := (Below.refl W.heap.size W).alloc (Nat.le_refl _) (.cells #[.int .i64 4, .int .i64 0, .string s, .slice none 0 0, .int .i64 4, .int .i64 0, .string t, .slice none 0 0] 34)
  have K := w_Work_find [tP s, tP t] (some ⟨W.heap.size, 0, none⟩) 2 _ (by simp) (scal_lies [tP s, tP t] (by intro p hp; simp at hp; rcases hp with rfl | rfl; exact sane_tP (by omega); exact sane_tP (by omega)) W _ (by rfl) 34) (hW.below hB)
  rw [sc_findx s t hs ht] at K
  exact law10_nums1 K (.inr ⟨1, by decide, rfl, rfl⟩)
theorem c_less (s t : ByteArray) (hs : s.size ≤ 65535) (ht : t.size ≤ 65535) (W : World) (hW : Ws W) :
    Calls Tryz.prog 10 #[.string wn_less, .slice (some ⟨W.heap.size, 0, none⟩) 2 2] (W.alloc (.cells #[.int .i64 4, .int .i64 0, .string s, .slice none 0 0, .int .i64 4, .int .i64 0, .string t, .slice none 0 0] 34)) (Bel (wTruth (Op.bytesLess s.toList t.toList)) (W.alloc (.cells #[.int .i64 4, .int .i64 0, .string s, .slice none 0 0, .int .i64 4, .int .i64 0, .string t, .slice none 0 0] 34))) := by
  have hB := (Below.refl W.heap.size W).alloc (Nat.le_refl _) (.cells #[.int .i64 4, .int .i64 0, .string s, .slice none 0 0, .int .i64 4, .int .i64 0, .string t, .slice none 0 0] 34)
  have K := w_Work_less [tP s, tP t] (some ⟨W.heap.size, 0, none⟩) 2 _ (by simp) (scal_lies [tP s, tP t] (by intro p hp; simp at hp; rcases hp with rfl | rfl; exact sane_tP (by omega); exact sane_tP (by omega)) W _ (by rfl) 34) (hW.below hB)
  rw [sc_less s t hs ht] at K
  exact K
end Go.Proofs.YthjpphojddbbmaaGreatDoor
