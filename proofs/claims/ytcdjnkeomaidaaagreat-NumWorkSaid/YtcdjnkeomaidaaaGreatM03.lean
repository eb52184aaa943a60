/-
  Part 3 of 8 of a proof, several texts in a row: Rows1, NumRowsW, KitOf, NumKit, RefRowsZ, RefHas, Values, PlLeft. Conditions: each text names its own.
-/
import Derived.Test.YtcdjnkeomaidaaaGreatM02
import Derived.Laws.ResultCell
import Derived.Test.YtcdjnkeomaidaaaGreatM01
import Derived.Test.YtcdjnkeomaidaaaGreatProg
import Derived.Lib.Strings
import Derived.Deep.CutRange
import Derived.Deep.CutBlock
/-
  Rows that a call makes itself, one by one. Conditions: none.
-/
namespace Go.Proofs.YtcdjnkeomaidaaaGreat
open Go.RowKit
set_option linter.unusedVariables false

/-- Rows that a call owns, with their abilities' names in blocks of their own. -/
structure RowsOwn (w : World) (B : Nat) (v : Value) (ts : List RowAt) : Prop where
  own : w.ownsRow B 90 6 v ts.length (ts.flatMap RowAt.cells)
  names : ∀ k (h : k < ts.length), NamesIn w (fun b => B ≤ b ∧ b < w.heap.size ∧ v.ownBlock ≠ some b) ts[k].row.abil ts[k].at_
theorem RowsOwn.nil (w : World) (B : Nat) : RowsOwn w B (.slice none 0 0) [] := ⟨World.ownsRow_nil _ _ _ _, fun k h => absurd h (by simp)⟩
theorem RowsOwn.below {w w' : World} {B : Nat} {v : Value} {ts : List RowAt} (h : RowsOwn w B v ts) (hb : Below w.heap.size w w') : RowsOwn w' B v ts :=
  ⟨own_below h.own hb, fun k hk => (h.names k hk).keep (fun b o hs => hb.cell (p := ⟨b, o, none⟩) hs.2.1) (fun b hs => ⟨hs.1, Nat.lt_of_lt_of_le hs.2.1 hb.size, hs.2.2⟩)⟩
theorem RowsOwn.step {w5 w6 w7 : World} {B : Nat} {v : Value} {ts : List RowAt} (h : RowsOwn w5 B v ts) (r : RowD) (hB : B ≤ w5.heap.size) {A1 : Option Addr} {c1 g cap : Nat} {Y : Obj}
    (hb6 : Below w5.heap.size w5 w6) (hA1 : NamesIn w6 (fresh w5 w6) r.abil A1) (hgrow : (w6.alloc Y).grownBy w7 v.ownBlock) (hat : v.ownBlock = some g ∨ g = w6.heap.size + 1)
    (hown : w7.ownsRow B 90 6 (.slice (some ⟨g, 0, none⟩) (ts.length + 1) cap) (ts.length + 1) (ts.flatMap RowAt.cells ++ (RowAt.mk r A1 c1).cells)) :
    RowsOwn w7 B (.slice (some ⟨g, 0, none⟩) (ts.length + 1) cap) (ts ++ [⟨r, A1, c1⟩]) := by
  have hs6 := hb6.size
  have hs7 := hgrow.size
  rw [size_alloc] at hs7
  have blk6 : ∀ b, b < w6.heap.size → v.ownBlock ≠ some b → w7.heap[b]? = w6.heap[b]? := fun b hb hne => by
    rw [hgrow.block b (by rw [size_alloc]; omega) (Ne.symm hne), Below.heap_alloc _ _ _ (by omega)]
  have hg : B ≤ g := (hown.lt g rfl).1
  have hvlt : ∀ b, v.ownBlock = some b → b < w5.heap.size := fun b e => (h.own.lt b e).2
  refine ⟨?_, ?_⟩
  · have : (ts ++ [RowAt.mk r A1 c1]).flatMap RowAt.cells = ts.flatMap RowAt.cells ++ (RowAt.mk r A1 c1).cells := by simp
    rw [this, List.length_append]
    exact hown
  · intro k hk
    rw [List.length_append] at hk
    have hlate : ∀ b, b < w6.heap.size → v.ownBlock ≠ some b → ∀ o, w7.cell? ⟨b, o, none⟩ = w6.cell? ⟨b, o, none⟩ := fun b h2 h3 o => World.cell?_of_block (a := ⟨b, o, none⟩) (blk6 b h2 h3)
    by_cases hkt : k < ts.length
    · rw [List.getElem_append_left hkt]
      refine (h.names k hkt).keep (fun b o hs => ?_) (fun b hs => ⟨hs.1, by have := hs.2.1; omega, ?_⟩)
      · rw [hlate b (by have := hs.2.1; omega) hs.2.2]
        exact hb6.cell (p := ⟨b, o, none⟩) hs.2.1
      · rcases hat with e | e
        · have := hs.2.2; rw [e] at this; exact this
        · intro e'; injection e' with e'; have := hs.2.1; have e'' : g = b := e'; omega
    · have hkk : k = ts.length := by simp at hk; omega
      have : (ts ++ [RowAt.mk r A1 c1])[k]'(by simp; omega) = ⟨r, A1, c1⟩ := by subst hkk; simp
      rw [this]
      refine hA1.keep (fun b o hs => ?_) (fun b hs => ⟨by have := hs.1; omega, by have := hs.2; omega, ?_⟩)
      · exact hlate b hs.2 (fun e => by have := hvlt b e; have := hs.1; omega) o
      · intro e'; injection e' with e'
        have e'' : g = b := e'
        have := hs.1; have := hs.2
        rcases hat with e | e
        · have := hvlt g e; omega
        · omega
/-- Names that lie in a new block. -/
theorem names_new (w : World) (l : List ByteArray) (cs : Array Value) (hcs : cs = (l.map Value.string).toArray) : NamesIn (w.alloc (.cells cs 9)) (fresh w (w.alloc (.cells cs 9))) l (some ⟨w.heap.size, 0, none⟩) := fun _ =>
  ⟨w.heap.size, 0, rfl, ⟨Nat.le_refl _, by simp⟩, fun j hj => by
    rw [Nat.zero_add, World.cell?_alloc_new, hcs]; simp [hj]⟩
theorem RowsOwn.lies {w : World} {B : Nat} {v : Value} {ts : List RowAt} (h : RowsOwn w B v ts) : ∃ A c, v = .slice A ts.length c ∧ RowsIn w (fun b => B ≤ b ∧ b < w.heap.size) ts A := by
  rcases h.own.2 with ⟨e, h2⟩ | ⟨g, cap, cur, e, _⟩
  · exact ⟨none, 0, by rw [e, h2], fun h => by omega⟩
  · subst e
    have hlt := h.own.lt g rfl
    refine ⟨_, _, rfl, fun hl => ⟨g, 0, rfl, hlt, fun k hk => ⟨fun j hj => ?_, (h.names k hk).keep (fun _ _ _ => rfl) (fun b hs => ⟨hs.1, hs.2.1⟩)⟩⟩⟩
    rw [Nat.zero_add, h.own.cellAt (k * 6 + j) (by omega), flat_at ts k hk j hj]
/-- A block that is not the row's own, behind a step. -/
theorem step_block {w5 w6 w7 : World} {Y : Obj} {v : Value} {b : Nat} {o : Obj} (hb6 : Below w5.heap.size w5 w6) (hgrow : (w6.alloc Y).grownBy w7 v.ownBlock) (hb : w5.heap[b]? = some o) (hne : v.ownBlock ≠ some b) : w7.heap[b]? = some o := by
  have hs6 := hb6.size
  have := heap_lt hb
  rw [hgrow.block b (by rw [size_alloc]; omega) (Ne.symm hne), Below.heap_alloc _ _ _ (by omega), hb6.block b this, hb]
theorem step_below {w w5 w6 w7 : World} {B : Nat} {Y : Obj} {v : Value} {base n : Nat} {e : TypeId} {size : Nat} {xs : List Value} (h : Below B w w5) (hB : B ≤ w5.heap.size) (hb6 : Below w5.heap.size w5 w6) (hgrow : (w6.alloc Y).grownBy w7 v.ownBlock) (hown : w5.ownsRow base e size v n xs) (hbase : B ≤ base) : Below B w w7 := by
  have hs := hb6.size
  exact ((h.trans (hb6.mono hB)).alloc (Nat.le_trans hB hs) Y).grown hgrow (by rw [size_alloc]; omega) (fun g hg => by have := (hown.lt g hg).1; omega)
end Go.Proofs.YtcdjnkeomaidaaaGreat

/-
  num.counts, num.rows, num.Kit, Kit.Name: walks. Conditions: none.
-/
namespace Go.Proofs.YtcdjnkeomaidaaaGreat
open Go.RowKit
set_option linter.unusedVariables false

def countsV (s : ByteArray) : Int := if s.toList == [110, 117, 109, 46, 110, 101, 103] || s.toList == [110, 117, 109, 46, 97, 98, 115] then 1 else 2
theorem num_counts (s : ByteArray) (w : World) : Calls Tryz.prog 17 #[.string s] w fun e w' => e = .returned (.int .i64 (countsV s)) ∧ w = w' := by
  go_enter Tryz.func17, Tryz.ntmps17
  go_wp2
  all_goals
    go_ret
    exact ⟨ret_int (by unfold countsV; simp_all), rfl⟩

theorem getD_size {l : List ByteArray} {n : Nat} (h : ∀ s ∈ l, s.size ≤ n) {k : Nat} (hk : k < l.length) (e : ByteArray) : (l.getD k e).size ≤ n := by
  have : l.getD k e = l[k] := by simp [hk]
  rw [this]
  exact h _ (List.getElem_mem hk)
theorem cells_at (l : List ByteArray) {k : Nat} (h : k < l.length) (e : ByteArray) : (l.map Value.string).toArray[k]? = some (.string (l.getD k e)) := by simp [h]
theorem take_row {p : List RowD} {f : ByteArray → RowD} {l : List ByteArray} {k : Nat} (h : k < l.length) (e : ByteArray) {us : List RowAt} {r : RowAt} (hus : us.map RowAt.row = p ++ (l.take k).map f) (hr : r.row = f (l.getD k e)) : (us ++ [r]).map RowAt.row = p ++ (l.take (k + 1)).map f := by
  rw [List.map_append, hus, List.take_add_one, List.map_append, List.append_assoc]
  simp [h, hr]

def nNum : ByteArray := ⟨#[110, 117, 109, 46]⟩
def sStrict : ByteArray := ⟨#[83, 116, 114, 105, 99, 116]⟩
def sPure : ByteArray := ⟨#[80, 117, 114, 101]⟩
def sSorted : ByteArray := ⟨#[83, 111, 114, 116, 101, 100]⟩
def sTotal : ByteArray := ⟨#[84, 111, 116, 97, 108]⟩
def sSugar : ByteArray := ⟨#[83, 117, 103, 97, 114]⟩
def names1 : List ByteArray := [⟨#[97, 100, 100]⟩, ⟨#[115, 117, 98]⟩, ⟨#[109, 117, 108]⟩, ⟨#[113, 117, 111]⟩, ⟨#[109, 111, 100]⟩, ⟨#[112, 111, 119]⟩, ⟨#[110, 101, 103]⟩, ⟨#[97, 98, 115]⟩]
def names2 : List ByteArray := [⟨#[109, 105, 110]⟩, ⟨#[109, 97, 120]⟩, ⟨#[108, 101, 115, 115]⟩, ⟨#[109, 111, 115, 116]⟩]
def names3 : List ByteArray := [⟨#[105, 110, 99]⟩, ⟨#[100, 101, 99]⟩]
def rowN1 (s : ByteArray) : RowD := ⟨nNum ++ s, countsV (nNum ++ s), countsV (nNum ++ s), false, 0, [sStrict, sPure, sSorted]⟩
def rowN2 (s : ByteArray) : RowD := ⟨nNum ++ s, 2, 2, false, 0, [sStrict, sPure, sTotal, sSorted]⟩
def rowN3 : RowD := ⟨⟨#[110, 117, 109, 46, 115, 117, 109]⟩, 1, -1, false, 0, [sPure, sSorted, sSugar]⟩
def rowN4 (s : ByteArray) : RowD := ⟨nNum ++ s, 1, 1, false, 0, [sPure, sSorted, sSugar]⟩
def numRowsA : List RowD := names1.map rowN1
def numRowsB : List RowD := numRowsA ++ names2.map rowN2 ++ [rowN3]
def numRows : List RowD := numRowsB ++ names3.map rowN4

def RowsPost (rs : List RowD) (w : World) (e : Ending) (w' : World) : Prop := ∃ v ts, e = .returned v ∧ RowsOwn w' w.heap.size v ts ∧ ts.map RowAt.row = rs ∧ Below w.heap.size w w'
set_option maxRecDepth 100000 in
set_option maxHeartbeats 4000000 in
theorem num_rows (w : World) : Calls Tryz.prog 27 #[] w (RowsPost numRows w) := by
  obtain ⟨i0, hi, hz0, hz1, hz2⟩ := info_parts info_row
  go_enter Tryz.func27, Tryz.ntmps27
  go_wp2
  go_loopw [1, 11] (fun s1 s11 wx => ∃ (k : Nat) (us : List RowAt), k ≤ 8 ∧ s11 = .int .i64 (k : Int) ∧ us.map RowAt.row = [] ++ (names1.take k).map rowN1 ∧ RowsOwn wx w.heap.size s1 us ∧ wx.heap[w.heap.size]? = some (.cells (names1.map Value.string).toArray 9) ∧ s1.ownBlock ≠ some w.heap.size ∧ Below w.heap.size w wx) (fun _ s11 _ => 8 - (intOf s11).toNat)
  case atStart => exact ⟨0, [], by omega, rfl, rfl, RowsOwn.nil _ _, heap_alloc_new _ _, by simp [Value.ownBlock], (Below.refl _ _).alloc (Nat.le_refl _) _⟩
  case round =>
    obtain ⟨k1, us1, hk1, rfl, hus, hrow, hblk, hne, hbel⟩ := hrel
    have hul1 : us1.length = k1 := by have := congrArg List.length hus; simp [names1] at this; omega
    have HU1 := Lib.hid hus
    have HR1 := Lib.hid hrow
    have HB1 := Lib.hid hbel
    have HBK := Lib.hid hblk
    have HNE := Lib.hid hne
    have hsz1 := hbel.size
    clear hus hrow hblk hne hbel
    by_cases hlt1 : k1 < 8
    · have e0 : wr.cell? ⟨w.heap.size, k1, none⟩ = some (.string (names1.getD k1 ⟨#[]⟩)) := by
        simp only [World.cell?, HBK.out]
        exact cells_at names1 hlt1 _
      have hns : (names1.getD k1 ⟨#[]⟩).size ≤ 9 := getD_size (by decide) hlt1 _
      generalize hnk : names1.getD k1 ⟨#[]⟩ = nk at e0 hns
      have HNK := Lib.hid hnk
      clear hnk
      have hn3 := names_new wr [sStrict, sPure, sSorted] _ rfl
      go_wp2_with (first
        | (go_at_call 17; refine (num_counts _ _).mono ?_; rintro e w' ⟨rfl, rfl⟩)
        | (at_builtin; refine wpList_append_lies _ rfl _ _ 71 rfl w.heap.size 90 i0 _ 6 72 Tryz.underlying71 hi hz0 hz1 hz2 rfl (by decide) u1 us1.length _ rfl (own_below HR1.out.own (((Below.refl _ _).alloc (Nat.le_refl _) _).alloc (by simp) _)) ⟨wr.heap.size + 1, 0, none⟩ 1 1 (RowAt.mk (rowN1 nk) (some ⟨wr.heap.size, 0, none⟩) 3).cells rfl rfl (World.news_of_block (by exact (heap_alloc2 wr _ _).2)) (cells_one _) (by decide) (by unfold maxLen; omega) (by omega) (by simp; omega) (wr.heap.size + 2) (by simp) ?_; intro g cap w7 hown hgrow hat hlt'))
      have hb2 : Below wr.heap.size wr (wr.alloc (.cells ([sStrict, sPure, sSorted].map Value.string).toArray 9)) := (Below.refl _ _).alloc (Nat.le_refl _) _
      have hst := HR1.out.step (rowN1 nk) hsz1 hb2 hn3 hgrow (by simpa using hat) hown
      have H1 := Lib.hid hst
      have H2 := Lib.hid (step_block hb2 hgrow HBK.out HNE.out)
      have H3 := Lib.hid (step_below HB1.out hsz1 hb2 hgrow HR1.out.own (Nat.le_refl _))
      have H4 : Hid ((Value.slice (some ⟨g, 0, none⟩) (us1.length + 1) cap).ownBlock ≠ some w.heap.size) := fun e => by
        have e' : g = w.heap.size := by injection e
        rcases hat with h | h
        · exact HNE.out (by rw [h, e'])
        · have := heap_lt HBK.out; omega
      clear hst hb2 hn3 hown hgrow hat
      rw [hul1] at H1 H4
      go_wp2
      go_roundw
      case rel => exact ⟨k1 + 1, us1 ++ [⟨rowN1 nk, _, _⟩], by omega, by go_num, take_row hlt1 ⟨#[]⟩ HU1.out (by rw [HNK.out]), H1.out, H2.out, H4.out, H3.out⟩
      case measure => simp [intOf]; omega
    · have HKE1 : Hid (k1 = 8) := (by omega : k1 = 8)
      obtain ⟨wp1, rfl⟩ : ∃ x, x = wr := ⟨_, rfl⟩
      obtain ⟨v1, rfl⟩ : ∃ x, x = u1 := ⟨_, rfl⟩
      have HA1 : Hid (us1.map RowAt.row = numRowsA) := by have h := HU1.out; rw [HKE1.out] at h; exact h
      clear HU1 HBK HNE
      go_wp2
      go_loopw [1, 30] (fun s1 s30 wx => ∃ (k : Nat) (us : List RowAt), k ≤ 4 ∧ s30 = .int .i64 (k : Int) ∧ us.map RowAt.row = numRowsA ++ (names2.take k).map rowN2 ∧ RowsOwn wx w.heap.size s1 us ∧ wx.heap[wp1.heap.size]? = some (.cells (names2.map Value.string).toArray 9) ∧ s1.ownBlock ≠ some wp1.heap.size ∧ Below w.heap.size w wx) (fun _ s30 _ => 4 - (intOf s30).toNat)
      case atStart => exact ⟨0, us1, by omega, rfl, by rw [HA1.out]; rfl, HR1.out.below ((Below.refl _ _).alloc (Nat.le_refl _) _), heap_alloc_new _ _, fun e => by have := (HR1.out.own.lt _ e).2; omega, HB1.out.alloc hsz1 _⟩
      case round =>
        obtain ⟨k2, us2, hk2, rfl, hus, hrow, hblk, hne, hbel⟩ := hrel
        have hul2 : us2.length = 8 + k2 := by have := congrArg List.length hus; simp [numRowsA, names1, names2] at this; omega
        have HU2 := Lib.hid hus
        have HR2 := Lib.hid hrow
        have HB2 := Lib.hid hbel
        have HBK := Lib.hid hblk
        have HNE := Lib.hid hne
        have hsz2 := hbel.size
        clear hus hrow hblk hne hbel
        by_cases hlt2 : k2 < 4
        · have e0 : wr.cell? ⟨wp1.heap.size, k2, none⟩ = some (.string (names2.getD k2 ⟨#[]⟩)) := by
            simp only [World.cell?, HBK.out]
            exact cells_at names2 hlt2 _
          have hns : (names2.getD k2 ⟨#[]⟩).size ≤ 9 := getD_size (by decide) hlt2 _
          generalize hnk : names2.getD k2 ⟨#[]⟩ = nk at e0 hns
          have HNK := Lib.hid hnk
          clear hnk
          have hn3 := names_new wr [sStrict, sPure, sTotal, sSorted] _ rfl
          go_wp2_with (first
            | (at_builtin; refine wpList_append_lies _ rfl _ _ 71 rfl w.heap.size 90 i0 _ 6 72 Tryz.underlying71 hi hz0 hz1 hz2 rfl (by decide) u1 us2.length _ rfl (own_below HR2.out.own (((Below.refl _ _).alloc (Nat.le_refl _) _).alloc (by simp) _)) ⟨wr.heap.size + 1, 0, none⟩ 1 1 (RowAt.mk (rowN2 nk) (some ⟨wr.heap.size, 0, none⟩) 4).cells rfl rfl (World.news_of_block (by exact (heap_alloc2 wr _ _).2)) (cells_one _) (by decide) (by unfold maxLen; omega) (by omega) (by simp; omega) (wr.heap.size + 2) (by simp) ?_; intro g cap w7 hown hgrow hat hlt'))
          have hb2 : Below wr.heap.size wr (wr.alloc (.cells ([sStrict, sPure, sTotal, sSorted].map Value.string).toArray 9)) := (Below.refl _ _).alloc (Nat.le_refl _) _
          have hst := HR2.out.step (rowN2 nk) hsz2 hb2 hn3 hgrow (by simpa using hat) hown
          have H1 := Lib.hid hst
          have H2 := Lib.hid (step_block hb2 hgrow HBK.out HNE.out)
          have H3 := Lib.hid (step_below HB2.out hsz2 hb2 hgrow HR2.out.own (Nat.le_refl _))
          have H4 : Hid ((Value.slice (some ⟨g, 0, none⟩) (us2.length + 1) cap).ownBlock ≠ some wp1.heap.size) := fun e => by
            have e' : g = wp1.heap.size := by injection e
            rcases hat with h | h
            · exact HNE.out (by rw [h, e'])
            · have := heap_lt HBK.out; omega
          clear hst hb2 hn3 hown hgrow hat
          rw [hul2] at H1 H4
          go_wp2
          go_roundw
          case rel => exact ⟨k2 + 1, us2 ++ [⟨rowN2 nk, _, _⟩], by omega, by go_num, take_row hlt2 ⟨#[]⟩ HU2.out (by rw [HNK.out]), H1.out, H2.out, H4.out, H3.out⟩
          case measure => simp [intOf]; omega
        · have HKE2 : Hid (k2 = 4) := (by omega : k2 = 4)
          obtain ⟨wp2, rfl⟩ : ∃ x, x = wr := ⟨_, rfl⟩
          obtain ⟨v2, rfl⟩ : ∃ x, x = u1 := ⟨_, rfl⟩
          have HA2 : Hid (us2.map RowAt.row = numRowsA ++ names2.map rowN2) := by have h := HU2.out; rw [HKE2.out] at h; exact h
          clear HU2 HBK HNE HR1 HB1
          have hn3 := names_new wp2 [sPure, sSorted, sSugar] _ rfl
          go_wp2_with (first
            | (at_builtin; refine wpList_append_lies _ rfl _ _ 71 rfl w.heap.size 90 i0 _ 6 72 Tryz.underlying71 hi hz0 hz1 hz2 rfl (by decide) v2 us2.length _ rfl (own_below HR2.out.own (((Below.refl _ _).alloc (Nat.le_refl _) _).alloc (by simp) _)) ⟨wp2.heap.size + 1, 0, none⟩ 1 1 (RowAt.mk (rowN3) (some ⟨wp2.heap.size, 0, none⟩) 3).cells rfl rfl (World.news_of_block (by exact (heap_alloc2 wp2 _ _).2)) (cells_one _) (by decide) (by unfold maxLen; omega) (by omega) (by simp; omega) (wp2.heap.size + 2) (by simp) ?_; intro g cap w7 hown hgrow hat hlt3'))
          have hb2 : Below wp2.heap.size wp2 (wp2.alloc (.cells ([sPure, sSorted, sSugar].map Value.string).toArray 9)) := (Below.refl _ _).alloc (Nat.le_refl _) _
          have hst := HR2.out.step rowN3 hsz2 hb2 hn3 hgrow (by simpa using hat) hown
          have HR7 := Lib.hid hst
          have HB7 := Lib.hid (step_below HB2.out hsz2 hb2 hgrow HR2.out.own (Nat.le_refl _))
          have hsz7 := HB7.out.size
          have HA7 : Hid ((us2 ++ [RowAt.mk rowN3 (some ⟨wp2.heap.size, 0, none⟩) 3]).map RowAt.row = numRowsB) := by show _ = _; rw [List.map_append, HA2.out]; rfl
          clear hst hb2 hn3 hown hgrow hat
          rw [hul2] at HR7
          obtain ⟨wp3, rfl⟩ : ∃ x, x = w7 := ⟨_, rfl⟩
          go_wp2
          go_loopw [1, 49] (fun s1 s49 wx => ∃ (k : Nat) (us : List RowAt), k ≤ 2 ∧ s49 = .int .i64 (k : Int) ∧ us.map RowAt.row = numRowsB ++ (names3.take k).map rowN4 ∧ RowsOwn wx w.heap.size s1 us ∧ wx.heap[wp3.heap.size]? = some (.cells (names3.map Value.string).toArray 9) ∧ s1.ownBlock ≠ some wp3.heap.size ∧ Below w.heap.size w wx) (fun _ s49 _ => 2 - (intOf s49).toNat)
          case atStart => exact ⟨0, _, by omega, rfl, by rw [HA7.out]; rfl, HR7.out.below ((Below.refl _ _).alloc (Nat.le_refl _) _), heap_alloc_new _ _, fun e => by have := (HR7.out.own.lt _ e).2; omega, HB7.out.alloc hsz7 _⟩
          case round =>
            obtain ⟨k3, us3, hk3, rfl, hus, hrow, hblk, hne, hbel⟩ := hrel
            have hul3 : us3.length = 13 + k3 := by have := congrArg List.length hus; simp [numRowsA, numRowsB, names1, names2, names3] at this; omega
            have HU3 := Lib.hid hus
            have HR3 := Lib.hid hrow
            have HB3 := Lib.hid hbel
            have HBK := Lib.hid hblk
            have HNE := Lib.hid hne
            have hsz3 := hbel.size
            clear hus hrow hblk hne hbel
            by_cases hlt3 : k3 < 2
            · have e0 : wr.cell? ⟨wp3.heap.size, k3, none⟩ = some (.string (names3.getD k3 ⟨#[]⟩)) := by
                simp only [World.cell?, HBK.out]
                exact cells_at names3 hlt3 _
              have hns : (names3.getD k3 ⟨#[]⟩).size ≤ 9 := getD_size (by decide) hlt3 _
              generalize hnk : names3.getD k3 ⟨#[]⟩ = nk at e0 hns
              have HNK := Lib.hid hnk
              clear hnk
              have hn3 := names_new wr [sPure, sSorted, sSugar] _ rfl
              go_wp2_with (first
                | (at_builtin; refine wpList_append_lies _ rfl _ _ 71 rfl w.heap.size 90 i0 _ 6 72 Tryz.underlying71 hi hz0 hz1 hz2 rfl (by decide) u1 us3.length _ rfl (own_below HR3.out.own (((Below.refl _ _).alloc (Nat.le_refl _) _).alloc (by simp) _)) ⟨wr.heap.size + 1, 0, none⟩ 1 1 (RowAt.mk (rowN4 nk) (some ⟨wr.heap.size, 0, none⟩) 3).cells rfl rfl (World.news_of_block (by exact (heap_alloc2 wr _ _).2)) (cells_one _) (by decide) (by unfold maxLen; omega) (by omega) (by simp; omega) (wr.heap.size + 2) (by simp) ?_; intro g cap w7 hown hgrow hat hlt'))
              have hb2 : Below wr.heap.size wr (wr.alloc (.cells ([sPure, sSorted, sSugar].map Value.string).toArray 9)) := (Below.refl _ _).alloc (Nat.le_refl _) _
              have hst := HR3.out.step (rowN4 nk) hsz3 hb2 hn3 hgrow (by simpa using hat) hown
              have H1 := Lib.hid hst
              have H2 := Lib.hid (step_block hb2 hgrow HBK.out HNE.out)
              have H3 := Lib.hid (step_below HB3.out hsz3 hb2 hgrow HR3.out.own (Nat.le_refl _))
              have H4 : Hid ((Value.slice (some ⟨g, 0, none⟩) (us3.length + 1) cap).ownBlock ≠ some wp3.heap.size) := fun e => by
                have e' : g = wp3.heap.size := by injection e
                rcases hat with h | h
                · exact HNE.out (by rw [h, e'])
                · have := heap_lt HBK.out; omega
              clear hst hb2 hn3 hown hgrow hat
              rw [hul3] at H1 H4
              go_wp2
              go_roundw
              case rel => exact ⟨k3 + 1, us3 ++ [⟨rowN4 nk, _, _⟩], by omega, by go_num, take_row hlt3 ⟨#[]⟩ HU3.out (by rw [HNK.out]), H1.out, H2.out, H4.out, H3.out⟩
              case measure => simp [intOf]; omega
            · have HKE3 : Hid (k3 = 2) := (by omega : k3 = 2)
              go_wp2
              go_ret
              exact ⟨_, us3, rfl, HR3.out, by have h := HU3.out; rw [HKE3.out] at h; exact h, HB3.out⟩
end Go.Proofs.YtcdjnkeomaidaaaGreat

/-
  kit.New on rows that are checked by computing. Conditions: none.
-/
namespace Go.Proofs.YtcdjnkeomaidaaaGreat
open Go.RowKit
set_option linter.unusedVariables false

def rowB (name : ByteArray) (r : RowD) : Bool :=
  (kindV r.kind).2.2 && ((kindV r.kind).1 == name) && decide (r.kind.size ≤ 1000) && decide (0 ≤ r.min) && decide (r.min ≤ 1023) && (decide (r.max = -1) || (decide (r.min ≤ r.max) && decide (r.max ≤ 1023))) && decide (0 ≤ r.text) && decide (r.text ≤ 4) && (!decide (r.text = 3) || !decide (r.min = 0)) && decide (0 < r.abil.length) && decide (r.abil.length ≤ 1000) && risingF r.abil (-1) && (!Lib.containsS r.abil totalName || Lib.containsS r.abil pureName)
theorem rowB_ok {name : ByteArray} {r : RowD} (h : rowB name r = true) : r.ok ∧ (kindV r.kind).1 = name := by
  simp only [rowB, Bool.and_eq_true, Bool.or_eq_true, Bool.not_eq_true', decide_eq_true_eq, decide_eq_false_iff_not] at h
  obtain ⟨⟨⟨⟨⟨⟨⟨⟨⟨⟨⟨⟨h1, h2⟩, h3⟩, h4⟩, h5⟩, h6⟩, h7⟩, h8⟩, h9⟩, h10⟩, h11⟩, h12⟩, h13⟩ := h
  exact ⟨⟨h1, by omega, h4, h5, h6, h7, h8, fun e => by rcases h9 with h | h; exact absurd e h; exact h, ⟨h10, by omega⟩, h12, fun e => by rcases h13 with h | h; rw [h] at e; cases e; exact h⟩, (MapKept.bytes_beq _ _).mp h2⟩
def apartB : List ByteArray → Bool
  | [] => true
  | a :: l => l.all (fun b => !(a == b)) && apartB l
theorem apart_ne : ∀ (l : List ByteArray), apartB l = true → ∀ (k : Nat) (hk : k < l.length) (m : Nat) (hm : m < k), l[m]'(by omega) ≠ l[k] := by
  intro l
  induction l with
  | nil => intro _ k hk; simp at hk
  | cons a l ih =>
    intro h k hk m hm
    simp only [apartB, Bool.and_eq_true, List.all_eq_true, Bool.not_eq_true'] at h
    cases k with
    | zero => omega
    | succ k =>
      have hk' : k < l.length := by simpa using hk
      cases m with
      | zero =>
        simp only [List.getElem_cons_zero, List.getElem_cons_succ]
        intro e
        have := h.1 _ (List.getElem_mem hk')
        rw [e, bytes_same] at this
        cases this
      | succ m =>
        simp only [List.getElem_cons_succ]
        exact ih h.2 k hk' m (by omega)
def kitB (name : ByteArray) (rs : List RowD) : Bool := wordB name && decide (name.size ≤ 1000) && decide (0 < rs.length) && decide (rs.length ≤ 1000000) && rs.all (rowB name) && apartB (rs.map RowD.kind)
theorem kit_new_of {name : ByteArray} {rs : List RowD} (h : kitB name rs = true) (f : FuncId) (ts : List RowAt) (hts : ts.map RowAt.row = rs) (A : Option Addr) (c : Nat) (w : World) (hA : RowsIn w (· < w.heap.size) ts A) :
    Calls Tryz.prog 26 #[.string name, .slice A ts.length c, .func (.func f) #[] #[]] w (NewPost name (.func (.func f) #[] #[]) rs w) := by
  subst hts
  simp only [kitB, Bool.and_eq_true, decide_eq_true_eq, List.all_eq_true, List.length_map] at h
  obtain ⟨⟨⟨⟨⟨h1, h2⟩, h3⟩, h4⟩, h5⟩, h6⟩ := h
  refine kit_new name f ts A c w h1 (by omega) h3 h4 (fun k hk => ?_) hA
  have hr := rowB_ok (h5 _ (List.mem_map.mpr ⟨_, List.getElem_mem hk, rfl⟩))
  refine ⟨hr.1, hr.2, fun m hm => ?_⟩
  have := apart_ne _ h6 k (by simpa using hk) m hm
  simpa using this
theorem RowsIn.keep {w w' : World} {S S' : Nat → Prop} {ts : List RowAt} {A : Option Addr} (h : RowsIn w S ts A) (hk : ∀ b o, S b → w'.cell? ⟨b, o, none⟩ = w.cell? ⟨b, o, none⟩) (hS : ∀ b, S b → S' b) : RowsIn w' S' ts A := fun hl => by
  obtain ⟨b, o, e, hs, hc⟩ := h hl
  exact ⟨b, o, e, hS b hs, fun k hh => ⟨fun j hj => (hk b _ hs).trans ((hc k hh).1 j hj), (hc k hh).2.keep hk hS⟩⟩
/-- What a kit's maker gives: a kit's place, what its memory is like. -/
def KitPost (name : ByteArray) (f : FuncId) (rs : List RowD) (w : World) (e : Ending) (w' : World) : Prop :=
  ∃ M v ts, w.heap.size ≤ M ∧ e = .returned (.pointer (some ⟨M + 1, 0, none⟩)) ∧ KitIn w' M (M + 1) name (.func (.func f) #[] #[]) v ts ∧ ts.map RowAt.row = rs ∧ Below w.heap.size w w'
theorem kit_Name {w : World} {M KB : Nat} {name : ByteArray} {m v : Value} {ts : List RowAt} (h : KitIn w M KB name m v ts) : Calls Tryz.prog 13 #[.pointer (some ⟨KB, 0, none⟩)] w fun e w' => e = .returned (.string name) ∧ w = w' := by
  have hc : w.cell? ⟨KB, 0, none⟩ = some (.string name) := by simp [World.cell?, h.kit]
  clear h
  go_enter Tryz.func13, Tryz.ntmps13
  go_wp2
  go_ret
  exact ⟨rfl, rfl⟩
end Go.Proofs.YtcdjnkeomaidaaaGreat

/-
  num.Kit: a walk. Conditions: none.
-/
namespace Go.Proofs.YtcdjnkeomaidaaaGreat
open Go.RowKit
set_option linter.unusedVariables false

theorem num_kitB : kitB ⟨#[110, 117, 109]⟩ numRows = true := by kernel_rfl
theorem num_Kit (w : World) : Calls Tryz.prog 12 #[] w (KitPost ⟨#[110, 117, 109]⟩ 28 numRows w) := by
  have hr := Lib.hid (num_rows w)
  go_enter Tryz.func12, Tryz.ntmps12
  go_wp2_with fail
  refine hr.out.mono ?_
  rintro e w1 ⟨v, ts, rfl, hown, hts, hb⟩
  have HT := Lib.hid hts
  have HB := Lib.hid hb
  obtain ⟨A, c, rfl, hA⟩ := hown.lies
  have HA := Lib.hid hA
  clear hts hb hown hA
  go_wp2_with fail
  refine (kit_new_of num_kitB 28 ts HT.out A c w1 (HA.out.keep (fun _ _ _ => rfl) (fun b hb => hb.2))).mono ?_
  rintro e w2 ⟨M, v, us, hM, rfl, hK, hu, hb2⟩
  have H1 := Lib.hid hK
  have H2 := Lib.hid hu
  have H3 := Lib.hid (HB.out.trans (hb2.mono HB.out.size))
  have H4 := Lib.hid (Nat.le_trans HB.out.size hM)
  clear hM hK hu hb2
  go_wp2
  go_ret
  exact ⟨M, v, us, H4.out, rfl, H1.out, H2.out, H3.out⟩
end Go.Proofs.YtcdjnkeomaidaaaGreat

/-
  espalierref8.Rows: a walk. Conditions: none.
-/
namespace Go.Proofs.YtcdjnkeomaidaaaGreat
open Go.RowKit
set_option linter.unusedVariables false

/-- Rows whose names lie in new blocks. -/
def Lain (w v : World) (ts : List RowAt) : Prop := Below w.heap.size w v ∧ ∀ k (h : k < ts.length), NamesIn v (fun b => w.heap.size ≤ b ∧ b < v.heap.size) ts[k].row.abil ts[k].at_
theorem Lain.nil (w : World) : Lain w w [] := ⟨Below.refl _ _, fun k h => absurd h (by simp)⟩
theorem Lain.step {w v v' : World} {ts : List RowAt} (h : Lain w v ts) (r : RowD) (n : Nat) (cs : Array Value) (hcs : cs = (r.abil.map Value.string).toArray) (hb : Below (v.alloc (.cells cs 9)).heap.size (v.alloc (.cells cs 9)) v') :
    Lain w v' (ts ++ [⟨r, some ⟨v.heap.size, 0, none⟩, n⟩]) := by
  have hs := h.1.size
  have hs' := hb.size
  rw [size_alloc] at hs'
  have hbv : Below v.heap.size v v' := ((Below.refl _ _).alloc (Nat.le_refl _) _).trans (hb.mono (by simp))
  refine ⟨h.1.trans (hbv.mono hs), fun k hk => ?_⟩
  by_cases hkt : k < ts.length
  · rw [List.getElem_append_left hkt]
    exact (h.2 k hkt).keep (fun b o hs => hbv.cell (p := ⟨b, o, none⟩) hs.2) (fun b hs => ⟨hs.1, by have := hs.2; omega⟩)
  · have hkk : k = ts.length := by simp at hk; omega
    have : (ts ++ [RowAt.mk r (some ⟨v.heap.size, 0, none⟩) n])[k]'(by simp; omega) = ⟨r, some ⟨v.heap.size, 0, none⟩, n⟩ := by subst hkk; simp
    rw [this]
    refine (names_new v r.abil cs hcs).keep (fun b o hs => hb.cell (p := ⟨b, o, none⟩) hs.2) (fun b hs => ⟨by have := hs.1; omega, by have := hs.2; rw [size_alloc] at this; omega⟩)
theorem Lain.rows {w v : World} {ts : List RowAt} (h : Lain w v ts) (t : TypeId) : RowsIn (v.alloc (.cells (ts.flatMap RowAt.cells).toArray t)) (· < (v.alloc (.cells (ts.flatMap RowAt.cells).toArray t)).heap.size) ts (some ⟨v.heap.size, 0, none⟩) := fun hl =>
  ⟨v.heap.size, 0, rfl, by simp, fun k hk => ⟨fun j hj => by rw [Nat.zero_add, World.cell?_alloc_new]; have := flat_at ts k hk j hj; simpa using this,
    (h.2 k hk).keep (fun b o hs => World.cell?_alloc_lt _ _ ⟨b, o, none⟩ hs.2) (fun b hs => by rw [size_alloc]; have := hs.2; omega)⟩⟩

theorem ref_row (k : ByteArray) (mn mx tx : Int) (A : Option Addr) (n c : Nat) (w : World) : Calls Tryz.prog 74 #[.string k, .int .i64 mn, .int .i64 mx, .int .i64 tx, .slice A n c] w (Bel (.agg #[.string k, .int .i64 mn, .int .i64 mx, .bool false, .int .i64 tx, .slice A n c]) w) := by
  have hb2 : Hid (Below w.heap.size w (w.alloc (.cells #[.string k, .int .i64 mn, .int .i64 mx, .bool false, .int .i64 tx, .slice A n c] 90))) := (Below.refl _ _).alloc (Nat.le_refl _) _
  go_enter Tryz.func74, Tryz.ntmps74
  go_wp2
  have hres := run_loadVar_row (P := Tryz.prog) _ _ _ 90 _ _ _ (heap_alloc_new w (.cells #[.string k, .int .i64 mn, .int .i64 mx, .bool false, .int .i64 tx, .slice A n c] 90)) Tryz.underlying90 rfl (by kernel_rfl)
  refine bodyPost_ret (fn := Tryz.f74) (v := .agg #[.string k, .int .i64 mn, .int .i64 mx, .bool false, .int .i64 tx, .slice A n c]) ?_ ?_ ?_
  · refine results_cell (p := 10) (ty := 90) (a := ⟨w.heap.size, 0, none⟩) Tryz.results74 ?_ ?_
    · rfl
    · exact hres
  · rfl
  · exact ⟨rfl, hb2.out⟩

theorem wpList_rows {ops : Array Oper} {rest : List Oper} {o : Oper} {a : Act} {Q : Exit → Act → World → Prop} (w : World) (d : Nat) (_hd : o.dst = some d) (hgd : o.guard = none) (ts : List RowAt) (n : Nat) (hn : ts.length = n)
    (h : (execOp a.eval o).run Tryz.prog w = .ok (.value (.slice (some ⟨w.heap.size, 0, none⟩) n n)) (w.alloc (.cells (ts.flatMap RowAt.cells).toArray 90)))
    (k : wpList Tryz.prog ops Q rest (a.put o.dst (.slice (some ⟨w.heap.size, 0, none⟩) n n)) (w.alloc (.cells (ts.flatMap RowAt.cells).toArray 90))) : wpList Tryz.prog ops Q (o :: rest) a w :=
  wpList_plain hgd fun _ hK => by unfold Oper.wp; rw [h]; exact hK _ _ k

/-- Rows that are made at one stroke. -/
def RefPost (rs : List RowD) (w : World) (e : Ending) (w' : World) : Prop := ∃ A c ts, e = .returned (.slice A ts.length c) ∧ RowsIn w' (· < w'.heap.size) ts A ∧ ts.map RowAt.row = rs ∧ Below w.heap.size w w'
set_option maxRecDepth 100000 in
set_option maxHeartbeats 4000000 in
theorem ref_rows (w : World) : Calls Tryz.prog 50 #[] w (RefPost numRows w) := by
  have H0 := Lib.hid (Lain.nil w)
  go_enter Tryz.func50, Tryz.ntmps50
  go_wp2_with fail
  refine (ref_row _ _ _ _ _ _ _ _).mono ?_
  rintro e v1 ⟨rfl, hb⟩
  have H1 := Lib.hid (H0.out.step ⟨⟨#[110, 117, 109, 46, 97, 100, 100]⟩, 2, 2, false, 0, [⟨#[83, 116, 114, 105, 99, 116]⟩, ⟨#[80, 117, 114, 101]⟩, ⟨#[83, 111, 114, 116, 101, 100]⟩]⟩ 3 _ rfl hb)
  clear hb H0
  go_wp2_with fail
  refine (ref_row _ _ _ _ _ _ _ _).mono ?_
  rintro e v2 ⟨rfl, hb⟩
  have H2 := Lib.hid (H1.out.step ⟨⟨#[110, 117, 109, 46, 115, 117, 98]⟩, 2, 2, false, 0, [⟨#[83, 116, 114, 105, 99, 116]⟩, ⟨#[80, 117, 114, 101]⟩, ⟨#[83, 111, 114, 116, 101, 100]⟩]⟩ 3 _ rfl hb)
  clear hb H1
  go_wp2_with fail
  refine (ref_row _ _ _ _ _ _ _ _).mono ?_
  rintro e v3 ⟨rfl, hb⟩
  have H3 := Lib.hid (H2.out.step ⟨⟨#[110, 117, 109, 46, 109, 117, 108]⟩, 2, 2, false, 0, [⟨#[83, 116, 114, 105, 99, 116]⟩, ⟨#[80, 117, 114, 101]⟩, ⟨#[83, 111, 114, 116, 101, 100]⟩]⟩ 3 _ rfl hb)
  clear hb H2
  go_wp2_with fail
  refine (ref_row _ _ _ _ _ _ _ _).mono ?_
  rintro e v4 ⟨rfl, hb⟩
  have H4 := Lib.hid (H3.out.step ⟨⟨#[110, 117, 109, 46, 113, 117, 111]⟩, 2, 2, false, 0, [⟨#[83, 116, 114, 105, 99, 116]⟩, ⟨#[80, 117, 114, 101]⟩, ⟨#[83, 111, 114, 116, 101, 100]⟩]⟩ 3 _ rfl hb)
  clear hb H3
  go_wp2_with fail
  refine (ref_row _ _ _ _ _ _ _ _).mono ?_
  rintro e v5 ⟨rfl, hb⟩
  have H5 := Lib.hid (H4.out.step ⟨⟨#[110, 117, 109, 46, 109, 111, 100]⟩, 2, 2, false, 0, [⟨#[83, 116, 114, 105, 99, 116]⟩, ⟨#[80, 117, 114, 101]⟩, ⟨#[83, 111, 114, 116, 101, 100]⟩]⟩ 3 _ rfl hb)
  clear hb H4
  go_wp2_with fail
  refine (ref_row _ _ _ _ _ _ _ _).mono ?_
  rintro e v6 ⟨rfl, hb⟩
  have H6 := Lib.hid (H5.out.step ⟨⟨#[110, 117, 109, 46, 112, 111, 119]⟩, 2, 2, false, 0, [⟨#[83, 116, 114, 105, 99, 116]⟩, ⟨#[80, 117, 114, 101]⟩, ⟨#[83, 111, 114, 116, 101, 100]⟩]⟩ 3 _ rfl hb)
  clear hb H5
  go_wp2_with fail
  refine (ref_row _ _ _ _ _ _ _ _).mono ?_
  rintro e v7 ⟨rfl, hb⟩
  have H7 := Lib.hid (H6.out.step ⟨⟨#[110, 117, 109, 46, 110, 101, 103]⟩, 1, 1, false, 0, [⟨#[83, 116, 114, 105, 99, 116]⟩, ⟨#[80, 117, 114, 101]⟩, ⟨#[83, 111, 114, 116, 101, 100]⟩]⟩ 3 _ rfl hb)
  clear hb H6
  go_wp2_with fail
  refine (ref_row _ _ _ _ _ _ _ _).mono ?_
  rintro e v8 ⟨rfl, hb⟩
  have H8 := Lib.hid (H7.out.step ⟨⟨#[110, 117, 109, 46, 97, 98, 115]⟩, 1, 1, false, 0, [⟨#[83, 116, 114, 105, 99, 116]⟩, ⟨#[80, 117, 114, 101]⟩, ⟨#[83, 111, 114, 116, 101, 100]⟩]⟩ 3 _ rfl hb)
  clear hb H7
  go_wp2_with fail
  refine (ref_row _ _ _ _ _ _ _ _).mono ?_
  rintro e v9 ⟨rfl, hb⟩
  have H9 := Lib.hid (H8.out.step ⟨⟨#[110, 117, 109, 46, 109, 105, 110]⟩, 2, 2, false, 0, [⟨#[83, 116, 114, 105, 99, 116]⟩, ⟨#[80, 117, 114, 101]⟩, ⟨#[84, 111, 116, 97, 108]⟩, ⟨#[83, 111, 114, 116, 101, 100]⟩]⟩ 4 _ rfl hb)
  clear hb H8
  go_wp2_with fail
  refine (ref_row _ _ _ _ _ _ _ _).mono ?_
  rintro e v10 ⟨rfl, hb⟩
  have H10 := Lib.hid (H9.out.step ⟨⟨#[110, 117, 109, 46, 109, 97, 120]⟩, 2, 2, false, 0, [⟨#[83, 116, 114, 105, 99, 116]⟩, ⟨#[80, 117, 114, 101]⟩, ⟨#[84, 111, 116, 97, 108]⟩, ⟨#[83, 111, 114, 116, 101, 100]⟩]⟩ 4 _ rfl hb)
  clear hb H9
  go_wp2_with fail
  refine (ref_row _ _ _ _ _ _ _ _).mono ?_
  rintro e v11 ⟨rfl, hb⟩
  have H11 := Lib.hid (H10.out.step ⟨⟨#[110, 117, 109, 46, 108, 101, 115, 115]⟩, 2, 2, false, 0, [⟨#[83, 116, 114, 105, 99, 116]⟩, ⟨#[80, 117, 114, 101]⟩, ⟨#[84, 111, 116, 97, 108]⟩, ⟨#[83, 111, 114, 116, 101, 100]⟩]⟩ 4 _ rfl hb)
  clear hb H10
  go_wp2_with fail
  refine (ref_row _ _ _ _ _ _ _ _).mono ?_
  rintro e v12 ⟨rfl, hb⟩
  have H12 := Lib.hid (H11.out.step ⟨⟨#[110, 117, 109, 46, 109, 111, 115, 116]⟩, 2, 2, false, 0, [⟨#[83, 116, 114, 105, 99, 116]⟩, ⟨#[80, 117, 114, 101]⟩, ⟨#[84, 111, 116, 97, 108]⟩, ⟨#[83, 111, 114, 116, 101, 100]⟩]⟩ 4 _ rfl hb)
  clear hb H11
  go_wp2_with fail
  refine (ref_row _ _ _ _ _ _ _ _).mono ?_
  rintro e v13 ⟨rfl, hb⟩
  have H13 := Lib.hid (H12.out.step ⟨⟨#[110, 117, 109, 46, 115, 117, 109]⟩, 1, -1, false, 0, [⟨#[80, 117, 114, 101]⟩, ⟨#[83, 111, 114, 116, 101, 100]⟩, ⟨#[83, 117, 103, 97, 114]⟩]⟩ 3 _ rfl hb)
  clear hb H12
  go_wp2_with fail
  refine (ref_row _ _ _ _ _ _ _ _).mono ?_
  rintro e v14 ⟨rfl, hb⟩
  have H14 := Lib.hid (H13.out.step ⟨⟨#[110, 117, 109, 46, 105, 110, 99]⟩, 1, 1, false, 0, [⟨#[80, 117, 114, 101]⟩, ⟨#[83, 111, 114, 116, 101, 100]⟩, ⟨#[83, 117, 103, 97, 114]⟩]⟩ 3 _ rfl hb)
  clear hb H13
  go_wp2_with fail
  refine (ref_row _ _ _ _ _ _ _ _).mono ?_
  rintro e v15 ⟨rfl, hb⟩
  have H15 := Lib.hid (H14.out.step ⟨⟨#[110, 117, 109, 46, 100, 101, 99]⟩, 1, 1, false, 0, [⟨#[80, 117, 114, 101]⟩, ⟨#[83, 111, 114, 116, 101, 100]⟩, ⟨#[83, 117, 103, 97, 114]⟩]⟩ 3 _ rfl hb)
  clear hb H14
  go_wp2_with (refine wpList_rows _ 31 rfl rfl [⟨⟨⟨#[110, 117, 109, 46, 97, 100, 100]⟩, 2, 2, false, 0, [⟨#[83, 116, 114, 105, 99, 116]⟩, ⟨#[80, 117, 114, 101]⟩, ⟨#[83, 111, 114, 116, 101, 100]⟩]⟩, some ⟨w.heap.size, 0, none⟩, 3⟩, ⟨⟨⟨#[110, 117, 109, 46, 115, 117, 98]⟩, 2, 2, false, 0, [⟨#[83, 116, 114, 105, 99, 116]⟩, ⟨#[80, 117, 114, 101]⟩, ⟨#[83, 111, 114, 116, 101, 100]⟩]⟩, some ⟨v1.heap.size, 0, none⟩, 3⟩, ⟨⟨⟨#[110, 117, 109, 46, 109, 117, 108]⟩, 2, 2, false, 0, [⟨#[83, 116, 114, 105, 99, 116]⟩, ⟨#[80, 117, 114, 101]⟩, ⟨#[83, 111, 114, 116, 101, 100]⟩]⟩, some ⟨v2.heap.size, 0, none⟩, 3⟩, ⟨⟨⟨#[110, 117, 109, 46, 113, 117, 111]⟩, 2, 2, false, 0, [⟨#[83, 116, 114, 105, 99, 116]⟩, ⟨#[80, 117, 114, 101]⟩, ⟨#[83, 111, 114, 116, 101, 100]⟩]⟩, some ⟨v3.heap.size, 0, none⟩, 3⟩, ⟨⟨⟨#[110, 117, 109, 46, 109, 111, 100]⟩, 2, 2, false, 0, [⟨#[83, 116, 114, 105, 99, 116]⟩, ⟨#[80, 117, 114, 101]⟩, ⟨#[83, 111, 114, 116, 101, 100]⟩]⟩, some ⟨v4.heap.size, 0, none⟩, 3⟩, ⟨⟨⟨#[110, 117, 109, 46, 112, 111, 119]⟩, 2, 2, false, 0, [⟨#[83, 116, 114, 105, 99, 116]⟩, ⟨#[80, 117, 114, 101]⟩, ⟨#[83, 111, 114, 116, 101, 100]⟩]⟩, some ⟨v5.heap.size, 0, none⟩, 3⟩, ⟨⟨⟨#[110, 117, 109, 46, 110, 101, 103]⟩, 1, 1, false, 0, [⟨#[83, 116, 114, 105, 99, 116]⟩, ⟨#[80, 117, 114, 101]⟩, ⟨#[83, 111, 114, 116, 101, 100]⟩]⟩, some ⟨v6.heap.size, 0, none⟩, 3⟩, ⟨⟨⟨#[110, 117, 109, 46, 97, 98, 115]⟩, 1, 1, false, 0, [⟨#[83, 116, 114, 105, 99, 116]⟩, ⟨#[80, 117, 114, 101]⟩, ⟨#[83, 111, 114, 116, 101, 100]⟩]⟩, some ⟨v7.heap.size, 0, none⟩, 3⟩, ⟨⟨⟨#[110, 117, 109, 46, 109, 105, 110]⟩, 2, 2, false, 0, [⟨#[83, 116, 114, 105, 99, 116]⟩, ⟨#[80, 117, 114, 101]⟩, ⟨#[84, 111, 116, 97, 108]⟩, ⟨#[83, 111, 114, 116, 101, 100]⟩]⟩, some ⟨v8.heap.size, 0, none⟩, 4⟩, ⟨⟨⟨#[110, 117, 109, 46, 109, 97, 120]⟩, 2, 2, false, 0, [⟨#[83, 116, 114, 105, 99, 116]⟩, ⟨#[80, 117, 114, 101]⟩, ⟨#[84, 111, 116, 97, 108]⟩, ⟨#[83, 111, 114, 116, 101, 100]⟩]⟩, some ⟨v9.heap.size, 0, none⟩, 4⟩, ⟨⟨⟨#[110, 117, 109, 46, 108, 101, 115, 115]⟩, 2, 2, false, 0, [⟨#[83, 116, 114, 105, 99, 116]⟩, ⟨#[80, 117, 114, 101]⟩, ⟨#[84, 111, 116, 97, 108]⟩, ⟨#[83, 111, 114, 116, 101, 100]⟩]⟩, some ⟨v10.heap.size, 0, none⟩, 4⟩, ⟨⟨⟨#[110, 117, 109, 46, 109, 111, 115, 116]⟩, 2, 2, false, 0, [⟨#[83, 116, 114, 105, 99, 116]⟩, ⟨#[80, 117, 114, 101]⟩, ⟨#[84, 111, 116, 97, 108]⟩, ⟨#[83, 111, 114, 116, 101, 100]⟩]⟩, some ⟨v11.heap.size, 0, none⟩, 4⟩, ⟨⟨⟨#[110, 117, 109, 46, 115, 117, 109]⟩, 1, -1, false, 0, [⟨#[80, 117, 114, 101]⟩, ⟨#[83, 111, 114, 116, 101, 100]⟩, ⟨#[83, 117, 103, 97, 114]⟩]⟩, some ⟨v12.heap.size, 0, none⟩, 3⟩, ⟨⟨⟨#[110, 117, 109, 46, 105, 110, 99]⟩, 1, 1, false, 0, [⟨#[80, 117, 114, 101]⟩, ⟨#[83, 111, 114, 116, 101, 100]⟩, ⟨#[83, 117, 103, 97, 114]⟩]⟩, some ⟨v13.heap.size, 0, none⟩, 3⟩, ⟨⟨⟨#[110, 117, 109, 46, 100, 101, 99]⟩, 1, 1, false, 0, [⟨#[80, 117, 114, 101]⟩, ⟨#[83, 111, 114, 116, 101, 100]⟩, ⟨#[83, 117, 103, 97, 114]⟩]⟩, some ⟨v14.heap.size, 0, none⟩, 3⟩] 15 rfl (by kernel_rfl) ?_)
  have HR := Lib.hid (H15.out.rows 90)
  have HB := Lib.hid (H15.out.1.alloc H15.out.1.size (.cells (List.flatMap RowAt.cells [⟨⟨⟨#[110, 117, 109, 46, 97, 100, 100]⟩, 2, 2, false, 0, [⟨#[83, 116, 114, 105, 99, 116]⟩, ⟨#[80, 117, 114, 101]⟩, ⟨#[83, 111, 114, 116, 101, 100]⟩]⟩, some ⟨w.heap.size, 0, none⟩, 3⟩, ⟨⟨⟨#[110, 117, 109, 46, 115, 117, 98]⟩, 2, 2, false, 0, [⟨#[83, 116, 114, 105, 99, 116]⟩, ⟨#[80, 117, 114, 101]⟩, ⟨#[83, 111, 114, 116, 101, 100]⟩]⟩, some ⟨v1.heap.size, 0, none⟩, 3⟩, ⟨⟨⟨#[110, 117, 109, 46, 109, 117, 108]⟩, 2, 2, false, 0, [⟨#[83, 116, 114, 105, 99, 116]⟩, ⟨#[80, 117, 114, 101]⟩, ⟨#[83, 111, 114, 116, 101, 100]⟩]⟩, some ⟨v2.heap.size, 0, none⟩, 3⟩, ⟨⟨⟨#[110, 117, 109, 46, 113, 117, 111]⟩, 2, 2, false, 0, [⟨#[83, 116, 114, 105, 99, 116]⟩, ⟨#[80, 117, 114, 101]⟩, ⟨#[83, 111, 114, 116, 101, 100]⟩]⟩, some ⟨v3.heap.size, 0, none⟩, 3⟩, ⟨⟨⟨#[110, 117, 109, 46, 109, 111, 100]⟩, 2, 2, false, 0, [⟨#[83, 116, 114, 105, 99, 116]⟩, ⟨#[80, 117, 114, 101]⟩, ⟨#[83, 111, 114, 116, 101, 100]⟩]⟩, some ⟨v4.heap.size, 0, none⟩, 3⟩, ⟨⟨⟨#[110, 117, 109, 46, 112, 111, 119]⟩, 2, 2, false, 0, [⟨#[83, 116, 114, 105, 99, 116]⟩, ⟨#[80, 117, 114, 101]⟩, ⟨#[83, 111, 114, 116, 101, 100]⟩]⟩, some ⟨v5.heap.size, 0, none⟩, 3⟩, ⟨⟨⟨#[110, 117, 109, 46, 110, 101, 103]⟩, 1, 1, false, 0, [⟨#[83, 116, 114, 105, 99, 116]⟩, ⟨#[80, 117, 114, 101]⟩, ⟨#[83, 111, 114, 116, 101, 100]⟩]⟩, some ⟨v6.heap.size, 0, none⟩, 3⟩, ⟨⟨⟨#[110, 117, 109, 46, 97, 98, 115]⟩, 1, 1, false, 0, [⟨#[83, 116, 114, 105, 99, 116]⟩, ⟨#[80, 117, 114, 101]⟩, ⟨#[83, 111, 114, 116, 101, 100]⟩]⟩, some ⟨v7.heap.size, 0, none⟩, 3⟩, ⟨⟨⟨#[110, 117, 109, 46, 109, 105, 110]⟩, 2, 2, false, 0, [⟨#[83, 116, 114, 105, 99, 116]⟩, ⟨#[80, 117, 114, 101]⟩, ⟨#[84, 111, 116, 97, 108]⟩, ⟨#[83, 111, 114, 116, 101, 100]⟩]⟩, some ⟨v8.heap.size, 0, none⟩, 4⟩, ⟨⟨⟨#[110, 117, 109, 46, 109, 97, 120]⟩, 2, 2, false, 0, [⟨#[83, 116, 114, 105, 99, 116]⟩, ⟨#[80, 117, 114, 101]⟩, ⟨#[84, 111, 116, 97, 108]⟩, ⟨#[83, 111, 114, 116, 101, 100]⟩]⟩, some ⟨v9.heap.size, 0, none⟩, 4⟩, ⟨⟨⟨#[110, 117, 109, 46, 108, 101, 115, 115]⟩, 2, 2, false, 0, [⟨#[83, 116, 114, 105, 99, 116]⟩, ⟨#[80, 117, 114, 101]⟩, ⟨#[84, 111, 116, 97, 108]⟩, ⟨#[83, 111, 114, 116, 101, 100]⟩]⟩, some ⟨v10.heap.size, 0, none⟩, 4⟩, ⟨⟨⟨#[110, 117, 109, 46, 109, 111, 115, 116]⟩, 2, 2, false, 0, [⟨#[83, 116, 114, 105, 99, 116]⟩, ⟨#[80, 117, 114, 101]⟩, ⟨#[84, 111, 116, 97, 108]⟩, ⟨#[83, 111, 114, 116, 101, 100]⟩]⟩, some ⟨v11.heap.size, 0, none⟩, 4⟩, ⟨⟨⟨#[110, 117, 109, 46, 115, 117, 109]⟩, 1, -1, false, 0, [⟨#[80, 117, 114, 101]⟩, ⟨#[83, 111, 114, 116, 101, 100]⟩, ⟨#[83, 117, 103, 97, 114]⟩]⟩, some ⟨v12.heap.size, 0, none⟩, 3⟩, ⟨⟨⟨#[110, 117, 109, 46, 105, 110, 99]⟩, 1, 1, false, 0, [⟨#[80, 117, 114, 101]⟩, ⟨#[83, 111, 114, 116, 101, 100]⟩, ⟨#[83, 117, 103, 97, 114]⟩]⟩, some ⟨v13.heap.size, 0, none⟩, 3⟩, ⟨⟨⟨#[110, 117, 109, 46, 100, 101, 99]⟩, 1, 1, false, 0, [⟨#[80, 117, 114, 101]⟩, ⟨#[83, 111, 114, 116, 101, 100]⟩, ⟨#[83, 117, 103, 97, 114]⟩]⟩, some ⟨v14.heap.size, 0, none⟩, 3⟩]).toArray 90))
  go_wp2
  go_ret
  exact ⟨_, 15, _, rfl, HR.out, by kernel_rfl, HB.out⟩
end Go.Proofs.YtcdjnkeomaidaaaGreat

/-
  espalierref6.Has: a walk, for any names. Conditions: they lie in memory.
-/
namespace Go.Proofs.YtcdjnkeomaidaaaGreat
open Go.RowKit
set_option linter.unusedVariables false

def hasB (s : ByteArray) (l : List ByteArray) : Bool := l.any (fun t => t.toList == s.toList)
set_option maxHeartbeats 4000000 in
theorem ref_Has (l : List ByteArray) (s : ByteArray) (A : Option Addr) (c : Nat) (w : World) (hlen : l.length ≤ 1000) (hl : NamesIn w (· < w.heap.size) l A) :
    Calls Tryz.prog 51 #[.slice A l.length c, .string s] w fun e w' => e = .returned (.bool (hasB s l)) ∧ w = w' := by
  have HL := Lib.hid hl
  clear hl
  go_enter Tryz.func51, Tryz.ntmps51
  go_wp2
  go_loop [5] (fun s5 => ∃ (k : Nat), k ≤ l.length ∧ s5 = .int .i64 (k : Int) ∧ hasB s (l.take k) = false) (fun s5 => l.length - (intOf s5).toNat)
  case atStart => exact ⟨0, Nat.zero_le _, rfl, rfl⟩
  case round =>
    obtain ⟨k, hk, rfl, hno⟩ := hrel
    have HN := Lib.hid hno
    clear hno
    by_cases hlt : k < l.length
    · obtain ⟨b, o, rfl, hb, hc⟩ := HL.out (by omega)
      have e0 : w.cell? ⟨b, o + k, none⟩ = some (.string (l.getD k ByteArray.empty)) := hc k hlt
      have hg : l.getD k ByteArray.empty = l[k] := by simp [List.getD, hlt]
      rw [hg] at e0
      have hst := Lib.hid (show hasB s (l.take (k + 1)) = (hasB s (l.take k) || (l[k].toList == s.toList)) by
        unfold hasB; rw [List.take_succ_eq_append_getElem hlt, List.any_append]; simp)
      have hmem := Lib.hid (List.getElem_mem hlt)
      clear hc hg
      cases ht : (l[k].toList == s.toList)
      · have HN2 := Lib.hid (show hasB s (l.take (k + 1)) = false by rw [hst.out, HN.out, ht]; rfl)
        clear hmem hst
        generalize l[k] = t at *
        go_wp2
        go_round
        case rel => exact ⟨k + 1, by omega, by go_num, HN2.out⟩
        case measure => simp [intOf]; omega
      · have hx := Lib.hid (show hasB s l = true from List.any_eq_true.2 ⟨_, hmem.out, ht⟩)
        clear hmem hst
        generalize l[k] = t at *
        go_wp2
        go_ret
        exact ⟨by rw [hx.out]; rfl, rfl⟩
    · have hx := Lib.hid (show hasB s l = false by
        have := HN.out
        rw [List.take_of_length_le (by omega)] at this
        exact this)
      go_wp2
      go_ret
      exact ⟨by rw [hx.out]; rfl, rfl⟩
end Go.Proofs.YtcdjnkeomaidaaaGreat

/-
  Values as data, and how they lie in memory. Conditions: none.
-/
namespace Go.Proofs.YtcdjnkeomaidaaaGreat
open Go.RowKit
set_option linter.unusedVariables false

/-- A value. -/
inductive Vl where
  | unit
  | truth (b : Bool)
  | int (n : Int)
  | text (s : ByteArray)
  | list (l : List Vl)

mutual
/-- A run-time value is that value, its lists' cells in blocks of S. -/
def Vl.is (w : World) (S : Nat → Prop) : Vl → Value → Prop
  | .unit, v => v = .iface 148 (.agg #[])
  | .truth b, v => v = .iface 45 (.bool b)
  | .int n, v => v = .iface 65 (.int .i64 n)
  | .text s, v => v = .iface 146 (.string s)
  | .list l, v => ∃ A c, v = .iface 147 (.slice A l.length c) ∧ Vls.lies w S l A
/-- .. one after the other from an address on. -/
def Vls.lies (w : World) (S : Nat → Prop) : List Vl → Option Addr → Prop
  | [], _ => True
  | x :: xs, A => ∃ b o u, A = some ⟨b, o, none⟩ ∧ S b ∧ w.cell? ⟨b, o, none⟩ = some u ∧ Vl.is w S x u ∧ Vls.lies w S xs (some ⟨b, o + 1, none⟩)
end

mutual
theorem Vl.is.keep {w w' : World} {S S' : Nat → Prop} (hk : ∀ b o, S b → w'.cell? ⟨b, o, none⟩ = w.cell? ⟨b, o, none⟩) (hS : ∀ b, S b → S' b) : ∀ (x : Vl) (v : Value), x.is w S v → x.is w' S' v
  | .unit, v, h => by unfold Vl.is at h ⊢; exact h
  | .truth b, v, h => by unfold Vl.is at h ⊢; exact h
  | .int n, v, h => by unfold Vl.is at h ⊢; exact h
  | .text s, v, h => by unfold Vl.is at h ⊢; exact h
  | .list l, v, h => by
    unfold Vl.is at h ⊢
    obtain ⟨A, c, h1, h2⟩ := h
    exact ⟨A, c, h1, Vls.lies.keep hk hS l A h2⟩
theorem Vls.lies.keep {w w' : World} {S S' : Nat → Prop} (hk : ∀ b o, S b → w'.cell? ⟨b, o, none⟩ = w.cell? ⟨b, o, none⟩) (hS : ∀ b, S b → S' b) : ∀ (l : List Vl) (A : Option Addr), Vls.lies w S l A → Vls.lies w' S' l A
  | [], A, h => by unfold Vls.lies; trivial
  | x :: xs, A, h => by
    unfold Vls.lies at h ⊢
    obtain ⟨b, o, u, e, h1, h2, h3, h4⟩ := h
    exact ⟨b, o, u, e, hS b h1, (hk b o h1).trans h2, Vl.is.keep hk hS x u h3, Vls.lies.keep hk hS xs _ h4⟩
end
theorem Vls.lies.at_ {w : World} {S : Nat → Prop} : ∀ {l : List Vl} {b o : Nat}, Vls.lies w S l (some ⟨b, o, none⟩) → ∀ (k : Nat) (h : k < l.length), S b ∧ ∃ u, w.cell? ⟨b, o + k, none⟩ = some u ∧ l[k].is w S u
  | [], _, _, _, k, h => absurd h (by simp)
  | x :: xs, b, o, hl, k, h => by
    unfold Vls.lies at hl
    obtain ⟨b', o', u, e, h1, h2, h3, h4⟩ := hl
    simp at e
    obtain ⟨rfl, rfl⟩ := e
    match k with
    | 0 => exact ⟨h1, u, by simpa using h2, by simpa using h3⟩
    | k + 1 =>
      obtain ⟨g1, u', g2, g3⟩ := Vls.lies.at_ h4 k (by simpa using h)
      exact ⟨g1, u', by rw [show o + (k + 1) = o + 1 + k by omega]; exact g2, by simpa using g3⟩
theorem Vls.lies.head {w : World} {S : Nat → Prop} {l : List Vl} {A : Option Addr} (h : Vls.lies w S l A) (hl : 0 < l.length) : ∃ b o, A = some ⟨b, o, none⟩ := by
  match l, h with
  | p :: ps, h =>
    unfold Vls.lies at h
    obtain ⟨b, o, u, e, _⟩ := h
    exact ⟨b, o, e⟩
/-- Together out of their cells. -/
theorem Vls.lies.of {w : World} {S : Nat → Prop} : ∀ {l : List Vl} {us : List Value} {b o : Nat}, us.length = l.length → (0 < l.length → S b) → (∀ j u, us[j]? = some u → w.cell? ⟨b, o + j, none⟩ = some u) →
    (∀ j (h : j < l.length) (h' : j < us.length), l[j].is w S us[j]) → Vls.lies w S l (some ⟨b, o, none⟩)
  | [], _, _, _, _, _, _, _ => by unfold Vls.lies; trivial
  | x :: xs, [], _, _, h, _, _, _ => by simp at h
  | x :: xs, u :: us, b, o, h, hS, hc, hi => by
    unfold Vls.lies
    refine ⟨b, o, u, rfl, hS (by simp), by simpa using hc 0 u rfl, hi 0 (by simp) (by simp), Vls.lies.of (us := us) (by simpa using h) (fun _ => hS (by simp)) (fun j v hj => ?_) (fun j h1 h2 => ?_)⟩
    · have := hc (j + 1) v (by simpa using hj)
      rw [show o + 1 + j = o + (j + 1) by omega]; exact this
    · exact hi (j + 1) (by simpa using h1) (by simpa using h2)

mutual
/-- The value of a plain one that may be. -/
def Pl.toVl : Pl → Vl
  | .mk k n t l => if k = 2 then .truth (decide (n = 1)) else if k = 3 then .int n else if k = 4 then .text t else if k = 5 then .list (Pls.toVl l) else .unit
def Pls.toVl : List Pl → List Vl
  | [] => []
  | p :: ps => p.toVl :: Pls.toVl ps
end
theorem Pls.toVl_length : ∀ l : List Pl, (Pls.toVl l).length = l.length
  | [] => by simp [Pls.toVl]
  | p :: ps => by simp [Pls.toVl, Pls.toVl_length ps]
theorem Pls.toVl_get : ∀ (l : List Pl) (j : Nat) (h : j < l.length) (h' : j < (Pls.toVl l).length), (Pls.toVl l)[j] = l[j].toVl
  | p :: ps, 0, _, _ => by simp [Pls.toVl]
  | p :: ps, j + 1, h, h' => by simp [Pls.toVl]; exact Pls.toVl_get ps j (by simpa using h) _
theorem Vl.is.iface {w : World} {S : Nat → Prop} {x : Vl} {v : Value} (h : x.is w S v) : ∃ u y, v = .iface u y := by
  cases x <;> unfold Vl.is at h
  case list l => obtain ⟨A, c, h, _⟩ := h; exact ⟨_, _, h⟩
  all_goals exact ⟨_, _, h⟩

mutual
/-- Its numbers are of 64 bits, its texts and lists within a row's reach. -/
def Vl.fine : Vl → Prop
  | .int n => rng n = true
  | .text s => s.size ≤ 140737488351232
  | .list l => l.length ≤ 140737488351232 ∧ Vls.fine l
  | _ => True
def Vls.fine : List Vl → Prop
  | [] => True
  | x :: xs => Vl.fine x ∧ Vls.fine xs
end
theorem Vls.fine.at_ : ∀ {l : List Vl}, Vls.fine l → ∀ (k : Nat) (h : k < l.length), l[k].fine
  | x :: xs, h, 0, _ => by unfold Vls.fine at h; exact h.1
  | x :: xs, h, k + 1, hk => by unfold Vls.fine at h; exact Vls.fine.at_ h.2 k (by simpa using hk)
mutual
/-- What zval's measure leaves. -/
def Vl.measure : Vl → Int → Int → Int
  | .text s, left, _ => left - 1 - s.size
  | .list l, left, deep => if 64 ≤ deep then -1 else Vls.measure l (left - 1) (deep + 1)
  | _, left, _ => left - 1
def Vls.measure : List Vl → Int → Int → Int
  | [], left, _ => left
  | x :: xs, left, deep => if x.measure left deep < 0 then x.measure left deep else Vls.measure xs (x.measure left deep) deep
end
mutual
theorem Vl.measure_le : ∀ (x : Vl) (left deep : Int), x.measure left deep ≤ max left (-1)
  | .unit, left, deep => by unfold Vl.measure; omega
  | .truth _, left, deep => by unfold Vl.measure; omega
  | .int _, left, deep => by unfold Vl.measure; omega
  | .text s, left, deep => by unfold Vl.measure; omega
  | .list l, left, deep => by
    have ih := Vls.measure_le l (left - 1) (deep + 1)
    unfold Vl.measure
    by_cases hd : 64 ≤ deep
    · rw [if_pos hd]; omega
    · rw [if_neg hd]; omega
theorem Vls.measure_le : ∀ (l : List Vl) (left deep : Int), Vls.measure l left deep ≤ max left (-1)
  | [], left, deep => by unfold Vls.measure; omega
  | x :: xs, left, deep => by
    have h1 := Vl.measure_le x left deep
    have h2 := Vls.measure_le xs (x.measure left deep) deep
    unfold Vls.measure
    by_cases h : x.measure left deep < 0
    · rw [if_pos h]; omega
    · rw [if_neg h]; omega
end
theorem Vls.measure_step {l : List Vl} {k : Nat} (h : k < l.length) (left deep : Int) :
    Vls.measure (l.drop k) left deep = if l[k].measure left deep < 0 then l[k].measure left deep else Vls.measure (l.drop (k + 1)) (l[k].measure left deep) deep := by
  rw [List.drop_eq_getElem_cons h, Vls.measure]
theorem Vl.size_lt {l : List Vl} {j : Nat} (h : j < l.length) : SizeOf.sizeOf l[j] < SizeOf.sizeOf (Vl.list l) := by
  have := List.sizeOf_lt_of_mem (List.getElem_mem h)
  simp; omega

mutual
theorem Pl.lies.fine {w : World} {B : Nat} : ∀ (p : Pl) (b o : Nat), p.lies w B b o → p.toVl.fine
  | .mk k n t l, b, o, h => by
    unfold Pl.lies at h
    obtain ⟨h0, h1, h2, h3, h4, h5, h6, h7, A, c, h8, h9⟩ := h
    have ih := Pls.lies.fine l A h9
    unfold Pl.toVl
    by_cases c2 : k = 2
    · rw [if_pos c2]; unfold Vl.fine; trivial
    · rw [if_neg c2]
      by_cases c3 : k = 3
      · rw [if_pos c3]; unfold Vl.fine; exact h5
      · rw [if_neg c3]
        by_cases c4 : k = 4
        · rw [if_pos c4]; unfold Vl.fine; exact h6
        · rw [if_neg c4]
          by_cases c5 : k = 5
          · rw [if_pos c5]; unfold Vl.fine; exact ⟨by rw [Pls.toVl_length]; omega, ih⟩
          · rw [if_neg c5]; unfold Vl.fine; trivial
theorem Pls.lies.fine {w : World} {B : Nat} : ∀ (l : List Pl) (A : Option Addr), Pls.lies w B l A → Vls.fine (Pls.toVl l)
  | [], A, h => by unfold Pls.toVl Vls.fine; trivial
  | p :: ps, A, h => by
    unfold Pls.lies at h
    obtain ⟨b, o, e, h1, h2⟩ := h
    unfold Pls.toVl Vls.fine
    exact ⟨Pl.lies.fine p b o h1, Pls.lies.fine ps _ h2⟩
end
/-- It may be: of a form, not too great, not too deep. -/
def Pl.ok (p : Pl) : Bool := (p.right 65536 0).1 && decide (0 ≤ p.toVl.measure 65536 0)
/-- An owned row of values reads as values. -/
theorem Vls.lies.of_own {w : World} {S : Nat → Prop} {base : Nat} {l : List Vl} {us : List Value} {v : Value} {e : TypeId} {n : Nat} (hn : us.length = n) (hl : us.length = l.length) (hown : w.ownsRow base e 1 v n us)
    (hS : ∀ g, v.ownBlock = some g → 0 < n → S g) (hi : ∀ j (h : j < l.length) (h' : j < us.length), l[j].is w S us[j]) : ∃ A c, v = .slice A n c ∧ Vls.lies w S l A := by
  rcases hown.2 with ⟨rfl, rfl⟩ | ⟨g, cap, cur, rfl, _⟩
  · have : l = [] := List.eq_nil_of_length_eq_zero (by omega)
    subst this
    exact ⟨none, 0, rfl, by unfold Vls.lies; trivial⟩
  · exact ⟨_, _, rfl, Vls.lies.of hl (fun h => hS g rfl (by omega)) (fun j u hj => by
      have h1 : j < us.length := by
        rcases Nat.lt_or_ge j us.length with h | h
        · exact h
        · rw [List.getElem?_eq_none h] at hj; cases hj
      rw [Nat.zero_add, hown.cellAt j (by omega)]; exact hj) hi⟩
end Go.Proofs.YtcdjnkeomaidaaaGreat

/-
  espalierref2.May: what is left of a size: a walk, for every plain value; it lets through the same as zval. Conditions: it lies in memory.
-/
namespace Go.Proofs.YtcdjnkeomaidaaaGreat
open Go.RowKit
set_option linter.unusedVariables false

/-- Its own form. -/
def goodB (k n : Int) (t : ByteArray) (len : Nat) (deep : Int) : Bool :=
  if k = 1 then decide (n = 0) && decide (t.size = 0) && decide (len = 0)
  else if k = 2 then (decide (n = 0) || decide (n = 1)) && decide (t.size = 0) && decide (len = 0)
  else if k = 3 then decide (t.size = 0) && decide (len = 0)
  else if k = 4 then decide (n = 0) && decide (len = 0)
  else if k = 5 then decide (n = 0) && decide (t.size = 0) && decide (deep < 64)
  else false
mutual
/-- What is left of a size. -/
def Pl.left : Pl → Int → Int → Int
  | .mk k n t l, m, deep => if goodB k n t l.length deep = false ∨ m - 1 - (t.size : Int) < 0 then -1 else Pls.left l (m - 1 - (t.size : Int)) (deep + 1)
def Pls.left : List Pl → Int → Int → Int
  | [], m, _ => m
  | p :: ps, m, deep => if 0 ≤ m then Pls.left ps (p.left m deep) deep else m
end
mutual
theorem Pl.left_le : ∀ (p : Pl) (m deep : Int), 0 ≤ m → p.left m deep ≤ m ∧ -1 ≤ p.left m deep
  | .mk k n t l, m, deep, hm => by
    unfold Pl.left
    by_cases h : goodB k n t l.length deep = false ∨ m - 1 - (t.size : Int) < 0
    · rw [if_pos h]; omega
    · rw [if_neg h]
      have ih := Pls.left_le l (m - 1 - (t.size : Int)) (deep + 1) (by omega)
      omega
theorem Pls.left_le : ∀ (l : List Pl) (m deep : Int), -1 ≤ m → Pls.left l m deep ≤ m ∧ -1 ≤ Pls.left l m deep
  | [], m, deep, hm => by unfold Pls.left; omega
  | p :: ps, m, deep, hm => by
    unfold Pls.left
    by_cases h0 : 0 ≤ m
    · rw [if_pos h0]
      have i1 := Pl.left_le p m deep h0
      have i2 := Pls.left_le ps (p.left m deep) deep i1.2
      omega
    · rw [if_neg h0]; omega
end
theorem Pls.left_step {l : List Pl} {k : Nat} (h : k < l.length) (m deep : Int) (hm : 0 ≤ m) : Pls.left (l.drop k) m deep = Pls.left (l.drop (k + 1)) (l[k].left m deep) deep := by
  rw [List.drop_eq_getElem_cons h, Pls.left, if_pos hm]
theorem Pls.left_neg (l : List Pl) (m deep : Int) (hm : ¬ 0 ≤ m) : Pls.left l m deep = m := by
  cases l with
  | nil => unfold Pls.left; rfl
  | cons p ps => unfold Pls.left; rw [if_neg hm]
set_option maxRecDepth 100000 in
set_option maxHeartbeats 4000000 in
theorem left_step (k n : Int) (t : ByteArray) (l : List Pl)
    (ih : ∀ (j : Nat) (h : j < l.length) (A : Option Addr) (c : Nat) (m deep : Int) (w : World), l[j].sane → Pls.lies w w.heap.size l[j].list A → 0 ≤ m → m ≤ 65536 → 0 ≤ deep → deep ≤ 65 →
      Calls Tryz.prog 75 #[l[j].arg A c, .int .i64 m, .int .i64 deep] w (Bel (.int .i64 (l[j].left m deep)) w))
    (A : Option Addr) (c : Nat) (m deep : Int) (w : World) (hs : (Pl.mk k n t l).sane) (hl : Pls.lies w w.heap.size l A) (hm0 : 0 ≤ m) (hm1 : m ≤ 65536) (hd0 : 0 ≤ deep) (hd1 : deep ≤ 65) :
    Calls Tryz.prog 75 #[.agg #[.int .i64 k, .int .i64 n, .string t, .slice A l.length c], .int .i64 m, .int .i64 deep] w (Bel (.int .i64 ((Pl.mk k n t l).left m deep)) w) := by
  have IH := Lib.hid ih
  have HL := Lib.hid hl
  generalize hX : Obj.cells #[.int .i64 k, .int .i64 n, .string t, .slice A l.length c] 34 = X
  have HX := Lib.hid hX
  have HB0 := Lib.hid ((Below.refl w.heap.size w).alloc (Nat.le_refl _) X)
  have D1 := Lib.hid (heap_alloc_new w X)
  have ht : t.size ≤ 140737488351232 := hs.2.2.1
  have hlen : l.length * 56 ≤ 140737488351232 := hs.2.2.2
  have hempty : Hid (t.toList = [] ↔ t.size = 0) := Lib.hid (by rw [Lib.toList_data, ← List.length_eq_zero_iff]; simp)
  clear ih hs hl hX
  go_enter Tryz.func75, Tryz.ntmps75
  go_upto_block 0 with fail
  rw [HX.out]
  have c0 : (w.alloc X).cell? ⟨w.heap.size, 0, none⟩ = some (.int .i64 k) := cell_of_row _ _ 0 _ _ _ (by rw [D1.out, ← HX.out])
  have c1 : (w.alloc X).cell? ⟨w.heap.size, 1, none⟩ = some (.int .i64 n) := cell_of_row _ _ 1 _ _ _ (by rw [D1.out, ← HX.out])
  have c2 : (w.alloc X).cell? ⟨w.heap.size, 2, none⟩ = some (.string t) := cell_of_row _ _ 2 _ _ _ (by rw [D1.out, ← HX.out])
  have c3 : (w.alloc X).cell? ⟨w.heap.size, 3, none⟩ = some (.slice A l.length c) := cell_of_row _ _ 3 _ _ _ (by rw [D1.out, ← HX.out])
  generalize hW : w.alloc X = W at *
  go_cut [7] from 11 to 83 (fun s7 wx => s7 = .bool (goodB k n t l.length deep) ∧ wx = W)
  case first =>
    clear HL IH HB0 D1 HX hW
    have hlb := Lib.hid (show ((l.length : Int) == 0) = decide (l = []) by rw [Bool.eq_iff_iff]; simp)
    by_cases h1 : k = 1
    · subst h1
      by_cases hn : n = 0
      · have hx0 : (n == 0) = true := by simpa using hn
        have HN := Lib.hid hn
        clear hn
        by_cases ht0 : t.toList = []
        · have hts : t.size = 0 := hempty.out.1 ht0
          go_wp2
          all_goals go_meet
          all_goals exact ⟨congrArg Value.bool (by simp [goodB, HN.out, hts, hlb.out]), rfl⟩
        · have htn : ¬ t.size = 0 := fun h => ht0 (hempty.out.2 h)
          have htb : t.toList.isEmpty = false := by simpa using ht0
          go_wp2
          all_goals go_meet
          all_goals exact ⟨congrArg Value.bool (by simp [goodB, HN.out, htn]), rfl⟩
      · have hx0 : (n == 0) = false := by simpa using hn
        go_wp2
        all_goals go_meet
        all_goals exact ⟨congrArg Value.bool (by simp [goodB, hn]), rfl⟩
    · have hk1 : (k == 1) = false := by simpa using h1
      by_cases h2 : k = 2
      · subst h2
        by_cases hn : n = 0
        · have hx0 : (n == 0) = true := by simpa using hn
          have HN := Lib.hid hn
          clear hn
          by_cases ht0 : t.toList = []
          · have hts : t.size = 0 := hempty.out.1 ht0
            go_wp2
            all_goals go_meet
            all_goals exact ⟨congrArg Value.bool (by simp [goodB, HN.out, hts, hlb.out]), rfl⟩
          · have htn : ¬ t.size = 0 := fun h => ht0 (hempty.out.2 h)
            have htb : t.toList.isEmpty = false := by simpa using ht0
            go_wp2
            all_goals go_meet
            all_goals exact ⟨congrArg Value.bool (by simp [goodB, HN.out, htn]), rfl⟩
        · have hx0 : (n == 0) = false := by simpa using hn
          by_cases hn1 : n = 1
          · have hx1 : (n == 1) = true := by simpa using hn1
            have HN1 := Lib.hid hn1
            clear hn1 hn
            by_cases ht0 : t.toList = []
            · have hts : t.size = 0 := hempty.out.1 ht0
              go_wp2
              all_goals go_meet
              all_goals exact ⟨congrArg Value.bool (by simp [goodB, HN1.out, hts, hlb.out]), rfl⟩
            · have htn : ¬ t.size = 0 := fun h => ht0 (hempty.out.2 h)
              have htb : t.toList.isEmpty = false := by simpa using ht0
              go_wp2
              all_goals go_meet
              all_goals exact ⟨congrArg Value.bool (by simp [goodB, HN1.out, htn]), rfl⟩
          · have hx1 : (n == 1) = false := by simpa using hn1
            go_wp2
            all_goals go_meet
            all_goals exact ⟨congrArg Value.bool (by simp [goodB, hn, hn1]), rfl⟩
      · have hk2 : (k == 2) = false := by simpa using h2
        by_cases h3 : k = 3
        · subst h3
          by_cases ht0 : t.toList = []
          · have hts : t.size = 0 := hempty.out.1 ht0
            go_wp2
            all_goals go_meet
            all_goals exact ⟨congrArg Value.bool (by simp [goodB, hts, hlb.out]), rfl⟩
          · have htn : ¬ t.size = 0 := fun h => ht0 (hempty.out.2 h)
            have htb : t.toList.isEmpty = false := by simpa using ht0
            go_wp2
            all_goals go_meet
            all_goals exact ⟨congrArg Value.bool (by simp [goodB, htn]), rfl⟩
        · have hk3 : (k == 3) = false := by simpa using h3
          by_cases h4 : k = 4
          · subst h4
            by_cases hn : n = 0
            · have hx0 : (n == 0) = true := by simpa using hn
              have HN := Lib.hid hn
              clear hn
              go_wp2
              all_goals go_meet
              all_goals exact ⟨congrArg Value.bool (by simp [goodB, HN.out, hlb.out]), rfl⟩
            · have hx0 : (n == 0) = false := by simpa using hn
              go_wp2
              all_goals go_meet
              all_goals exact ⟨congrArg Value.bool (by simp [goodB, hn]), rfl⟩
          · have hk4 : (k == 4) = false := by simpa using h4
            by_cases h5 : k = 5
            · subst h5
              by_cases hn : n = 0
              · have hx0 : (n == 0) = true := by simpa using hn
                have HN := Lib.hid hn
                clear hn
                by_cases ht0 : t.toList = []
                · have hts : t.size = 0 := hempty.out.1 ht0
                  by_cases hdp : deep < 64
                  · have hdx := hdp
                    go_wp2
                    all_goals go_meet
                    all_goals exact ⟨congrArg Value.bool (by simp [goodB, HN.out, hts, hdp]), rfl⟩
                  · have hdx : decide (deep < 64) = false := by simpa using hdp
                    go_wp2
                    all_goals go_meet
                    all_goals exact ⟨congrArg Value.bool (by simp [goodB, HN.out, hts, hdp]), rfl⟩
                · have htn : ¬ t.size = 0 := fun h => ht0 (hempty.out.2 h)
                  have htb : t.toList.isEmpty = false := by simpa using ht0
                  go_wp2
                  all_goals go_meet
                  all_goals exact ⟨congrArg Value.bool (by simp [goodB, HN.out, htn]), rfl⟩
              · have hx0 : (n == 0) = false := by simpa using hn
                go_wp2
                all_goals go_meet
                all_goals exact ⟨congrArg Value.bool (by simp [goodB, hn]), rfl⟩
            · have hk5 : (k == 5) = false := by simpa using h5
              go_wp2
              all_goals go_meet
              all_goals exact ⟨congrArg Value.bool (by simp [goodB, h1, h2, h3, h4, h5]), rfl⟩
  case rest =>
    obtain ⟨rfl, rfl⟩ := hcut
    cases hg : goodB k n t l.length deep
    · have hx := Lib.hid (show (Pl.mk k n t l).left m deep = -1 by unfold Pl.left; rw [if_pos (.inl hg)])
      go_wp2
      go_ret
      exact ⟨by rw [hx.out]; rfl, HB0.out⟩
    · by_cases hneg : m - 1 - (t.size : Int) < 0
      · have hx := Lib.hid (show (Pl.mk k n t l).left m deep = -1 by unfold Pl.left; rw [if_pos (.inr hneg)])
        have hd : decide (m - 1 - (t.size : Int) < 0) = true := by simpa using hneg
        go_wp2
        go_ret
        exact ⟨by rw [hx.out]; rfl, HB0.out⟩
      · have hx := Lib.hid (show (Pl.mk k n t l).left m deep = Pls.left l (m - 1 - (t.size : Int)) (deep + 1) by unfold Pl.left; rw [if_neg (by rw [hg]; simpa using hneg)])
        have hd : decide (m - 1 - (t.size : Int) < 0) = false := by simp; omega
        have hdeep : l ≠ [] → deep < 64 := fun hne => by
          unfold goodB at hg
          split at hg
          · simp [hne] at hg
          · split at hg
            · simp [hne] at hg
            · split at hg
              · simp [hne] at hg
              · split at hg
                · simp [hne] at hg
                · split at hg
                  · simp only [Bool.and_eq_true, decide_eq_true_eq] at hg; exact hg.2
                  · cases hg
        have HD := Lib.hid hdeep
        clear hdeep
        have hzw : w.heap.size < wc.heap.size := lt_of_block D1.out
        go_wp2
        clear c0 c1 c2 c3
        go_loopw [1, 8] (fun s1 s8 wr => ∃ (j : Nat) (m' : Int), j ≤ l.length ∧ s8 = .int .i64 (j : Int) ∧ s1 = .int .i64 m' ∧ m' ≤ 65536 ∧ -1 ≤ m' ∧ Pls.left (l.drop j) m' (deep + 1) = Pls.left l (m - 1 - (t.size : Int)) (deep + 1) ∧ wr.heap[w.heap.size]? = some X ∧ Below w.heap.size w wr) (fun _ s8 _ => l.length - (intOf s8).toNat)
        case atStart => exact ⟨0, _, Nat.zero_le _, rfl, rfl, by omega, by omega, rfl, D1.out, HB0.out⟩
        case round =>
          obtain ⟨j, m', hj, rfl, rfl, hm2, hm3, heq, hb1, hbel⟩ := hrel
          have HE := Lib.hid heq
          have B1 := Lib.hid hb1
          have HB := Lib.hid hbel
          have hsz : w.heap.size < wr.heap.size := lt_of_block hb1
          clear heq hb1 hbel
          have c3 : wr.cell? ⟨w.heap.size, 3, none⟩ = some (.slice A l.length c) := cell_of_row _ _ 3 _ _ _ (by rw [B1.out, ← HX.out])
          by_cases hlt : j < l.length
          · by_cases hm4 : 0 ≤ m'
            · obtain ⟨b', o', rfl⟩ := HL.out.head (by omega)
              have hdp := HD.out (by intro e; rw [e] at hlt; simp at hlt)
              have hlies := (HL.out.below HB.out (by omega : w.heap.size ≤ wr.heap.size)).at_ j hlt
              obtain ⟨hbb, e0, e1, e2, hlen2, A', c', e3, hll⟩ := hlies.parts
              have hle := Lib.hid (Pl.left_le l[j] m' (deep + 1) hm4)
              have HLL := Lib.hid (IH.out j hlt A' c' m' (deep + 1) wr hlies.sane hll hm4 hm2 (by omega) (by omega))
              have HST := Lib.hid (Pls.left_step hlt m' (deep + 1) hm4)
              clear hll hlies
              unfold Pl.arg at HLL
              go_wp2_with fail
              refine HLL.out.mono ?_
              rintro e w2 ⟨rfl, hb⟩
              have B2 := Lib.hid ((hb.block w.heap.size hsz).trans B1.out)
              have HB2 := Lib.hid (HB.out.trans (hb.mono HB.out.size))
              have hle2 := hle.out
              clear hb
              go_wp2
              go_roundw
              case rel => exact ⟨j + 1, _, by omega, by go_num, rfl, by omega, by omega, by rw [← HE.out, HST.out], B2.out, HB2.out⟩
              case measure => simp [intOf]; omega
            · have hd4 : decide (0 ≤ m') = false := by simp; omega
              have hfin := Lib.hid (show Pls.left l (m - 1 - (t.size : Int)) (deep + 1) = m' by rw [← HE.out]; exact Pls.left_neg _ _ _ hm4)
              go_wp2
              go_ret
              exact ⟨by rw [hx.out, hfin.out]; rfl, HB.out⟩
          · have hfin := Lib.hid (show Pls.left l (m - 1 - (t.size : Int)) (deep + 1) = m' by
              rw [← HE.out, List.drop_eq_nil_of_le (by omega)]; unfold Pls.left; rfl)
            go_wp2
            go_ret
            exact ⟨by rw [hx.out, hfin.out]; rfl, HB.out⟩
theorem left_all : ∀ (z : Nat) (p : Pl), SizeOf.sizeOf p ≤ z → ∀ (A : Option Addr) (c : Nat) (m deep : Int) (w : World), p.sane → Pls.lies w w.heap.size p.list A → 0 ≤ m → m ≤ 65536 → 0 ≤ deep → deep ≤ 65 →
      Calls Tryz.prog 75 #[p.arg A c, .int .i64 m, .int .i64 deep] w (Bel (.int .i64 (p.left m deep)) w) := by
  intro z
  induction z with
  | zero => intro p h; cases p; simp at h
  | succ z ih =>
    intro p hp A c m deep w h1 h2 h3 h4 h5 h6
    obtain ⟨k, n, t, l⟩ := p
    exact left_step k n t l (fun j hj => ih l[j] (by have := Pl.size_lt (k := k) (n := n) (t := t) hj; omega)) A c m deep w h1 h2 h3 h4 h5 h6
set_option maxRecDepth 100000 in
/-- espalierref2.May. -/
theorem ref2_May (p : Pl) (A : Option Addr) (c : Nat) (w : World) (h1 : p.sane) (h2 : Pls.lies w w.heap.size p.list A) :
    Calls Tryz.prog 52 #[p.arg A c] w (Bel (.bool (decide (0 ≤ p.left 65536 0))) w) := by
  have HB : Hid (Below w.heap.size w (w.alloc (.cells #[.int .i64 p.kind, .int .i64 p.num, .string p.text, .slice A p.list.length c] 34))) := (Below.refl _ _).alloc (Nat.le_refl _) _
  have KL := Lib.hid (left_all _ p (Nat.le_refl _) A c 65536 0 (w.alloc (.cells #[.int .i64 p.kind, .int .i64 p.num, .string p.text, .slice A p.list.length c] 34)) h1 (h2.below HB.out (by simp)) (by omega) (by omega) (by omega) (by omega))
  unfold Pl.arg at KL ⊢
  clear h2
  go_enter Tryz.func52, Tryz.ntmps52
  go_wp2_with fail
  refine KL.out.mono ?_
  rintro e w2 ⟨rfl, hb⟩
  have HB2 := Lib.hid (HB.out.trans (hb.mono (by simp)))
  clear hb
  go_wp2
  go_ret
  exact ⟨rfl, HB2.out⟩
theorem right5 (n : Int) (t : ByteArray) (l : List Pl) (m deep : Int) : (Pl.mk 5 n t l).right m deep = if m - 1 < 0 ∨ 64 < deep ∨ t.size ≠ 0 then (false, m - 1) else ((Pls.right l (m - 1) (deep + 1)).1 && decide (n = 0), (Pls.right l (m - 1) (deep + 1)).2) := by
  rw [Pl.right]
  by_cases h : m - 1 < 0 ∨ 64 < deep ∨ t.size ≠ 0
  · rw [if_pos h, if_pos (by rcases h with h | h | h; exact .inl h; exact .inr (.inl h); exact .inr (.inr (.inl ⟨by decide, h⟩)))]
  · rw [if_neg h, if_neg (by rintro (h' | h' | ⟨_, h'⟩ | ⟨h', _⟩); exact h (.inl h'); exact h (.inr (.inl h')); exact h (.inr (.inr h')); exact h' rfl)]; rfl
theorem meas5 (n : Int) (t : ByteArray) (l : List Pl) (m deep : Int) : (Pl.mk 5 n t l).toVl.measure m deep = if 64 ≤ deep then -1 else Vls.measure (Pls.toVl l) (m - 1) (deep + 1) := by
  rw [Pl.toVl]; rfl
theorem left5 (n : Int) (t : ByteArray) (l : List Pl) (m deep : Int) : (Pl.mk 5 n t l).left m deep = if ¬ (n = 0 ∧ t.size = 0 ∧ deep < 64) ∨ m - 1 - (t.size : Int) < 0 then -1 else Pls.left l (m - 1 - (t.size : Int)) (deep + 1) := by
  rw [Pl.left]
  have hg : (goodB 5 n t l.length deep = false) ↔ ¬ (n = 0 ∧ t.size = 0 ∧ deep < 64) := by
    show ((decide (n = 0) && decide (t.size = 0) && decide (deep < 64)) = false) ↔ _
    rw [← Bool.not_eq_true]
    simp only [Bool.and_eq_true, decide_eq_true_eq, and_assoc]
  by_cases h : ¬ (n = 0 ∧ t.size = 0 ∧ deep < 64) ∨ m - 1 - (t.size : Int) < 0
  · rw [if_pos h, if_pos (by rw [hg]; exact h)]
  · rw [if_neg h, if_neg (by rw [hg]; exact h)]
theorem left_long {k n : Int} {t : ByteArray} {l : List Pl} {m deep : Int} (hk : k ≠ 5) (hl : 0 < l.length) : (Pl.mk k n t l).left m deep = -1 ∧ ((Pl.mk k n t l).right m deep).1 = false := by
  constructor
  · rw [Pl.left, if_pos]
    left
    unfold goodB
    have hb : decide (l.length = 0) = false := by simp; exact fun e => by rw [e] at hl; simp at hl
    rw [hb]
    simp only [Bool.and_false, if_neg hk]
    split <;> simp
  · rw [Pl.right, if_pos (.inr (.inr (.inr ⟨hk, hl⟩)))]
theorem scalar_ok (k n : Int) (t : ByteArray) (m deep : Int) (hk : k ≠ 5) (hm : 0 ≤ m) (hd0 : 0 ≤ deep) (hd1 : deep ≤ 64) :
    (((Pl.mk k n t []).right m deep).1 = true ∧ 0 ≤ (Pl.mk k n t []).toVl.measure m deep → 0 ≤ (Pl.mk k n t []).left m deep) ∧ (0 ≤ (Pl.mk k n t []).left m deep → ((Pl.mk k n t []).right m deep).1 = true ∧ ((Pl.mk k n t []).right m deep).2 = (Pl.mk k n t []).left m deep ∧ (Pl.mk k n t []).toVl.measure m deep = (Pl.mk k n t []).left m deep) := by
  have hd2 : ¬ 64 < deep := by omega
  rw [Pl.left, Pl.right, Pl.toVl, Pls.left]
  by_cases h1 : k = 1
  · subst h1
    by_cases hn : n = 0 <;> by_cases ht : t.size = 0 <;> by_cases hm1 : m - 1 < 0 <;> simp [goodB, Vl.measure, hn, ht, hm1, hd2] <;> (try omega)
  · by_cases h2 : k = 2
    · subst h2
      by_cases hn : n = 0 <;> by_cases hn1 : n = 1 <;> by_cases ht : t.size = 0 <;> by_cases hm1 : m - 1 < 0 <;> simp [goodB, Vl.measure, hn, hn1, ht, hm1, hd2] <;> (try omega)
    · by_cases h3 : k = 3
      · subst h3
        by_cases ht : t.size = 0 <;> by_cases hm1 : m - 1 < 0 <;> simp [goodB, Vl.measure, ht, hm1, hd2] <;> (try omega)
      · by_cases h4 : k = 4
        · subst h4
          by_cases hn : n = 0 <;> by_cases hm1 : m - 1 < 0 <;> by_cases hm2 : m - 1 - (t.size : Int) < 0 <;> simp [goodB, Vl.measure, hn, hm1, hm2, hd2] <;> (try omega)
        · simp [goodB, h1, h2, h3, h4, hk]
mutual
/-- zval's look and measure let through what this lets through, and leave as much. -/
theorem Pl.left_ok : ∀ (p : Pl) (m deep : Int), 0 ≤ m → 0 ≤ deep → deep ≤ 64 →
    ((p.right m deep).1 = true ∧ 0 ≤ p.toVl.measure m deep → 0 ≤ p.left m deep) ∧ (0 ≤ p.left m deep → (p.right m deep).1 = true ∧ (p.right m deep).2 = p.left m deep ∧ p.toVl.measure m deep = p.left m deep)
  | .mk k n t l, m, deep, hm, hd0, hd1 => by
    by_cases h5 : k = 5
    · subst h5
      rw [right5, meas5, left5]
      by_cases hd : deep < 64
      · rw [if_neg (by omega : ¬ 64 ≤ deep)]
        by_cases hc : m - 1 < 0 ∨ t.size ≠ 0
        · rw [if_pos (by rcases hc with h | h; exact .inl h; exact .inr (.inr h)), if_pos (by rcases hc with h | h; exact .inr (by omega); exact .inl (fun h' => h h'.2.1))]
          exact ⟨fun h => absurd h.1 (by simp), fun h => absurd h (by omega)⟩
        · have h1 : ¬ m - 1 < 0 := fun h => hc (.inl h)
          have h2 : t.size = 0 := Classical.byContradiction fun h => hc (.inr h)
          have ih := Pls.left_ok l (m - 1) (deep + 1) (by omega) (by omega) (by omega)
          rw [if_neg (by rintro (h | h | h); exact h1 h; omega; exact h h2)]
          rw [show m - 1 - (t.size : Int) = m - 1 by omega]
          by_cases hn : n = 0
          · rw [if_neg (by rintro (h | h); exact h ⟨hn, h2, hd⟩; exact h1 h)]
            simp only [hn, decide_true, Bool.and_true]
            exact ih
          · rw [if_pos (.inl (fun h => hn h.1))]
            exact ⟨fun h => absurd h.1 (by simp [hn]), fun h => absurd h (by omega)⟩
      · rw [if_pos (by omega : 64 ≤ deep), if_pos (show ¬ (n = 0 ∧ t.size = 0 ∧ deep < 64) ∨ m - 1 - (t.size : Int) < 0 from .inl (fun h => hd h.2.2))]
        exact ⟨fun h => absurd h.2 (by omega), fun h => absurd h (by omega)⟩
    · cases l with
      | nil => exact scalar_ok k n t m deep h5 hm hd0 hd1
      | cons x xs =>
        obtain ⟨h1, h2⟩ := left_long (k := k) (n := n) (t := t) (l := x :: xs) (m := m) (deep := deep) h5 (by simp)
        rw [h1, h2]
        exact ⟨fun h => absurd h.1 (by simp), fun h => absurd h (by omega)⟩
theorem Pls.left_ok : ∀ (l : List Pl) (m deep : Int), 0 ≤ m → 0 ≤ deep → deep ≤ 64 →
    ((Pls.right l m deep).1 = true ∧ 0 ≤ Vls.measure (Pls.toVl l) m deep → 0 ≤ Pls.left l m deep) ∧ (0 ≤ Pls.left l m deep → (Pls.right l m deep).1 = true ∧ (Pls.right l m deep).2 = Pls.left l m deep ∧ Vls.measure (Pls.toVl l) m deep = Pls.left l m deep)
  | [], m, deep, hm, hd0, hd1 => by
    unfold Pls.right Pls.toVl Vls.measure Pls.left
    exact ⟨fun h => h.2, fun h => ⟨rfl, rfl, rfl⟩⟩
  | p :: ps, m, deep, hm, hd0, hd1 => by
    have ih := Pl.left_ok p m deep hm hd0 hd1
    have hlp := Pl.left_le p m deep hm
    unfold Pls.right Pls.toVl Vls.measure Pls.left
    rw [if_pos hm]
    by_cases h : 0 ≤ p.left m deep
    · obtain ⟨h1, h2, h3⟩ := ih.2 h
      rw [if_pos h1, h2, h3, if_neg (by omega)]
      exact Pls.left_ok ps _ deep h hd0 hd1
    · rw [Pls.left_neg _ _ _ h]
      refine ⟨fun ⟨h1, h2⟩ => ?_, fun h' => absurd h' h⟩
      by_cases hr : (p.right m deep).1 = true
      · by_cases hmm : p.toVl.measure m deep < 0
        · rw [if_pos hmm] at h2; omega
        · exact ih.1 ⟨hr, by omega⟩
      · rw [if_neg hr] at h1; cases h1
end
theorem ok_left (p : Pl) : p.ok = decide (0 ≤ p.left 65536 0) := by
  have h := Pl.left_ok p 65536 0 (by omega) (by omega) (by omega)
  unfold Pl.ok
  rw [Bool.eq_iff_iff]
  simp only [Bool.and_eq_true, decide_eq_true_eq]
  exact ⟨h.1, fun h' => ⟨(h.2 h').1, by rw [(h.2 h').2.2]; exact h'⟩⟩
end Go.Proofs.YtcdjnkeomaidaaaGreat
