/-
  num.counts, num.rows, num.Kit, Kit.Name: walks. Conditions: none.
-/
import Derived.Test.YtcdjnkeomaidaaaRows1
namespace Go.Proofs.Ytcdjnkeomaidaaa
open Go.RowKit
set_option linter.unusedVariables false

def countsV (s : ByteArray) : Int := if s.toList == [110, 117, 109, 46, 110, 101, 103] || s.toList == [110, 117, 109, 46, 97, 98, 115] then 1 else 2
theorem num_counts (s : ByteArray) (w : World) : Calls Try.prog 18 #[.string s] w fun e w' => e = .returned (.int .i64 (countsV s)) ∧ w = w' := by
  go_enter Try.func18, Try.ntmps18
  go_wp2
  all_goals
    go_ret
    exact ⟨ret_int (by unfold countsV; simp_all), rfl⟩

theorem getD_size {l : List ByteArray} {n : Nat} (h : ∀ s ∈ l, s.size ≤ n) {k : Nat} (hk : k < l.length) (e : ByteArray) : (l.getD k e).size ≤ n := by
  have : l.getD k e = l[k] := by simp [hk]
  rw [this]
  exact h _ (List.getElem_mem hk)
theorem cells_at (l : List ByteArray) {k : Nat} (h : k < l.length) (e : ByteArray) : (l.map Value.string).toArray[k]? = some (.string (l.getD k e)) := by simp [h]
theorem take_row {p : List RowD} {f : ByteArray → RowD} {l : List ByteArray} {k : Nat} (h : k < l.length) (e : ByteArray) {us : List RowAt} {r : RowAt} (hus : us.map RowAt.row = p ++ (l.take k).map f) (hr : r.row = f (l.getD k e)) : (us ++ [r]).map RowAt.row = p ++ (l.take (k + 1)).map f := by
  rw [List.map_append, hus, List.take_add_one, List.map_append, List.append_assoc]
  simp [h, hr]

def nNum : ByteArray := ⟨#[110, 117, 109, 46]⟩
def sStrict : ByteArray := ⟨#[83, 116, 114, 105, 99, 116]⟩
def sPure : ByteArray := ⟨#[80, 117, 114, 101]⟩
def sSorted : ByteArray := ⟨#[83, 111, 114, 116, 101, 100]⟩
def sTotal : ByteArray := ⟨#[84, 111, 116, 97, 108]⟩
def sSugar : ByteArray := ⟨#[83, 117, 103, 97, 114]⟩
def names1 : List ByteArray := [⟨#[97, 100, 100]⟩, ⟨#[115, 117, 98]⟩, ⟨#[109, 117, 108]⟩, ⟨#[113, 117, 111]⟩, ⟨#[109, 111, 100]⟩, ⟨#[112, 111, 119]⟩, ⟨#[110, 101, 103]⟩, ⟨#[97, 98, 115]⟩]
def names2 : List ByteArray := [⟨#[109, 105, 110]⟩, ⟨#[109, 97, 120]⟩, ⟨#[108, 101, 115, 115]⟩, ⟨#[109, 111, 115, 116]⟩]
def names3 : List ByteArray := [⟨#[105, 110, 99]⟩, ⟨#[100, 101, 99]⟩]
def rowN1 (s : ByteArray) : RowD := ⟨nNum ++ s, countsV (nNum ++ s), countsV (nNum ++ s), false, 0, [sStrict, sPure, sSorted]⟩
def rowN2 (s : ByteArray) : RowD := ⟨nNum ++ s, 2, 2, false, 0, [sStrict, sPure, sTotal, sSorted]⟩
def rowN3 : RowD := ⟨⟨#[110, 117, 109, 46, 115, 117, 109]⟩, 1, -1, false, 0, [sPure, sSorted, sSugar]⟩
def rowN4 (s : ByteArray) : RowD := ⟨nNum ++ s, 1, 1, false, 0, [sPure, sSorted, sSugar]⟩
def numRowsA : List RowD := names1.map rowN1
def numRowsB : List RowD := numRowsA ++ names2.map rowN2 ++ [rowN3]
def numRows : List RowD := numRowsB ++ names3.map rowN4

def RowsPost (rs : List RowD) (w : World) (e : Ending) (w' : World) : Prop := ∃ v ts, e = .returned v ∧ RowsOwn w' w.heap.size v ts ∧ ts.map RowAt.row = rs ∧ Below w.heap.size w w'
set_option maxRecDepth 100000 in
set_option maxHeartbeats 4000000 in
theorem num_rows (w : World) : Calls Try.prog 25 #[] w (RowsPost numRows w) := by
  obtain ⟨i0, hi, hz0, hz1, hz2⟩ := info_parts info_row
  go_enter Try.func25, Try.ntmps25
  go_wp2
  go_loopw [1, 11] (fun s1 s11 wx => ∃ (k : Nat) (us : List RowAt), k ≤ 8 ∧ s11 = .int .i64 (k : Int) ∧ us.map RowAt.row = [] ++ (names1.take k).map rowN1 ∧ RowsOwn wx w.heap.size s1 us ∧ wx.heap[w.heap.size]? = some (.cells (names1.map Value.string).toArray 9) ∧ s1.ownBlock ≠ some w.heap.size ∧ Below w.heap.size w wx) (fun _ s11 _ => 8 - (intOf s11).toNat)
  case atStart => exact ⟨0, [], by omega, rfl, rfl, RowsOwn.nil _ _, heap_alloc_new _ _, by simp [Value.ownBlock], (Below.refl _ _).alloc (Nat.le_refl _) _⟩
  case round =>
    obtain ⟨k1, us1, hk1, rfl, hus, hrow, hblk, hne, hbel⟩ := hrel
    have hul1 : us1.length = k1 := by have := congrArg List.length hus; simp [names1] at this; omega
    have HU1 := Lib.hid hus
    have HR1 := Lib.hid hrow
    have HB1 := Lib.hid hbel
    have HBK := Lib.hid hblk
    have HNE := Lib.hid hne
    have hsz1 := hbel.size
    clear hus hrow hblk hne hbel
    by_cases hlt1 : k1 < 8
    · have e0 : wr.cell? ⟨w.heap.size, k1, none⟩ = some (.string (names1.getD k1 ⟨#[]⟩)) := by
        simp only [World.cell?, HBK.out]
        exact cells_at names1 hlt1 _
      have hns : (names1.getD k1 ⟨#[]⟩).size ≤ 9 := getD_size (by decide) hlt1 _
      generalize hnk : names1.getD k1 ⟨#[]⟩ = nk at e0 hns
      have HNK := Lib.hid hnk
      clear hnk
      have hn3 := names_new wr [sStrict, sPure, sSorted] _ rfl
      go_wp2_with (first
        | (go_at_call 18; refine (num_counts _ _).mono ?_; rintro e w' ⟨rfl, rfl⟩)
        | (at_builtin; refine wpList_append_lies _ rfl _ _ 44 rfl w.heap.size 63 i0 _ 6 72 Try.underlying44 hi hz0 hz1 hz2 rfl (by decide) u1 us1.length _ rfl (own_below HR1.out.own (((Below.refl _ _).alloc (Nat.le_refl _) _).alloc (by simp) _)) ⟨wr.heap.size + 1, 0, none⟩ 1 1 (RowAt.mk (rowN1 nk) (some ⟨wr.heap.size, 0, none⟩) 3).cells rfl rfl (World.news_of_block (by exact (heap_alloc2 wr _ _).2)) (cells_one _) (by decide) (by unfold maxLen; omega) (by omega) (by simp; omega) (wr.heap.size + 2) (by simp) ?_; intro g cap w7 hown hgrow hat hlt'))
      have hb2 : Below wr.heap.size wr (wr.alloc (.cells ([sStrict, sPure, sSorted].map Value.string).toArray 9)) := (Below.refl _ _).alloc (Nat.le_refl _) _
      have hst := HR1.out.step (rowN1 nk) hsz1 hb2 hn3 hgrow (by simpa using hat) hown
      have H1 := Lib.hid hst
      have H2 := Lib.hid (step_block hb2 hgrow HBK.out HNE.out)
      have H3 := Lib.hid (step_below HB1.out hsz1 hb2 hgrow HR1.out.own (Nat.le_refl _))
      have H4 : Hid ((Value.slice (some ⟨g, 0, none⟩) (us1.length + 1) cap).ownBlock ≠ some w.heap.size) := fun e => by
        have e' : g = w.heap.size := by injection e
        rcases hat with h | h
        · exact HNE.out (by rw [h, e'])
        · have := heap_lt HBK.out; omega
      clear hst hb2 hn3 hown hgrow hat
      rw [hul1] at H1 H4
      go_wp2
      go_roundw
      case rel => exact ⟨k1 + 1, us1 ++ [⟨rowN1 nk, _, _⟩], by omega, by go_num, take_row hlt1 ⟨#[]⟩ HU1.out (by rw [HNK.out]), H1.out, H2.out, H4.out, H3.out⟩
      case measure => simp [intOf]; omega
    · have HKE1 : Hid (k1 = 8) := (by omega : k1 = 8)
      obtain ⟨wp1, rfl⟩ : ∃ x, x = wr := ⟨_, rfl⟩
      obtain ⟨v1, rfl⟩ : ∃ x, x = u1 := ⟨_, rfl⟩
      have HA1 : Hid (us1.map RowAt.row = numRowsA) := by have h := HU1.out; rw [HKE1.out] at h; exact h
      clear HU1 HBK HNE
      go_wp2
      go_loopw [1, 30] (fun s1 s30 wx => ∃ (k : Nat) (us : List RowAt), k ≤ 4 ∧ s30 = .int .i64 (k : Int) ∧ us.map RowAt.row = numRowsA ++ (names2.take k).map rowN2 ∧ RowsOwn wx w.heap.size s1 us ∧ wx.heap[wp1.heap.size]? = some (.cells (names2.map Value.string).toArray 9) ∧ s1.ownBlock ≠ some wp1.heap.size ∧ Below w.heap.size w wx) (fun _ s30 _ => 4 - (intOf s30).toNat)
      case atStart => exact ⟨0, us1, by omega, rfl, by rw [HA1.out]; rfl, HR1.out.below ((Below.refl _ _).alloc (Nat.le_refl _) _), heap_alloc_new _ _, fun e => by have := (HR1.out.own.lt _ e).2; omega, HB1.out.alloc hsz1 _⟩
      case round =>
        obtain ⟨k2, us2, hk2, rfl, hus, hrow, hblk, hne, hbel⟩ := hrel
        have hul2 : us2.length = 8 + k2 := by have := congrArg List.length hus; simp [numRowsA, names1, names2] at this; omega
        have HU2 := Lib.hid hus
        have HR2 := Lib.hid hrow
        have HB2 := Lib.hid hbel
        have HBK := Lib.hid hblk
        have HNE := Lib.hid hne
        have hsz2 := hbel.size
        clear hus hrow hblk hne hbel
        by_cases hlt2 : k2 < 4
        · have e0 : wr.cell? ⟨wp1.heap.size, k2, none⟩ = some (.string (names2.getD k2 ⟨#[]⟩)) := by
            simp only [World.cell?, HBK.out]
            exact cells_at names2 hlt2 _
          have hns : (names2.getD k2 ⟨#[]⟩).size ≤ 9 := getD_size (by decide) hlt2 _
          generalize hnk : names2.getD k2 ⟨#[]⟩ = nk at e0 hns
          have HNK := Lib.hid hnk
          clear hnk
          have hn3 := names_new wr [sStrict, sPure, sTotal, sSorted] _ rfl
          go_wp2_with (first
            | (at_builtin; refine wpList_append_lies _ rfl _ _ 44 rfl w.heap.size 63 i0 _ 6 72 Try.underlying44 hi hz0 hz1 hz2 rfl (by decide) u1 us2.length _ rfl (own_below HR2.out.own (((Below.refl _ _).alloc (Nat.le_refl _) _).alloc (by simp) _)) ⟨wr.heap.size + 1, 0, none⟩ 1 1 (RowAt.mk (rowN2 nk) (some ⟨wr.heap.size, 0, none⟩) 4).cells rfl rfl (World.news_of_block (by exact (heap_alloc2 wr _ _).2)) (cells_one _) (by decide) (by unfold maxLen; omega) (by omega) (by simp; omega) (wr.heap.size + 2) (by simp) ?_; intro g cap w7 hown hgrow hat hlt'))
          have hb2 : Below wr.heap.size wr (wr.alloc (.cells ([sStrict, sPure, sTotal, sSorted].map Value.string).toArray 9)) := (Below.refl _ _).alloc (Nat.le_refl _) _
          have hst := HR2.out.step (rowN2 nk) hsz2 hb2 hn3 hgrow (by simpa using hat) hown
          have H1 := Lib.hid hst
          have H2 := Lib.hid (step_block hb2 hgrow HBK.out HNE.out)
          have H3 := Lib.hid (step_below HB2.out hsz2 hb2 hgrow HR2.out.own (Nat.le_refl _))
          have H4 : Hid ((Value.slice (some ⟨g, 0, none⟩) (us2.length + 1) cap).ownBlock ≠ some wp1.heap.size) := fun e => by
            have e' : g = wp1.heap.size := by injection e
            rcases hat with h | h
            · exact HNE.out (by rw [h, e'])
            · have := heap_lt HBK.out; omega
          clear hst hb2 hn3 hown hgrow hat
          rw [hul2] at H1 H4
          go_wp2
          go_roundw
          case rel => exact ⟨k2 + 1, us2 ++ [⟨rowN2 nk, _, _⟩], by omega, by go_num, take_row hlt2 ⟨#[]⟩ HU2.out (by rw [HNK.out]), H1.out, H2.out, H4.out, H3.out⟩
          case measure => simp [intOf]; omega
        · have HKE2 : Hid (k2 = 4) := (by omega : k2 = 4)
          obtain ⟨wp2, rfl⟩ : ∃ x, x = wr := ⟨_, rfl⟩
          obtain ⟨v2, rfl⟩ : ∃ x, x = u1 := ⟨_, rfl⟩
          have HA2 : Hid (us2.map RowAt.row = numRowsA ++ names2.map rowN2) := by have h := HU2.out; rw [HKE2.out] at h; exact h
          clear HU2 HBK HNE HR1 HB1
          have hn3 := names_new wp2 [sPure, sSorted, sSugar] _ rfl
          go_wp2_with (first
            | (at_builtin; refine wpList_append_lies _ rfl _ _ 44 rfl w.heap.size 63 i0 _ 6 72 Try.underlying44 hi hz0 hz1 hz2 rfl (by decide) v2 us2.length _ rfl (own_below HR2.out.own (((Below.refl _ _).alloc (Nat.le_refl _) _).alloc (by simp) _)) ⟨wp2.heap.size + 1, 0, none⟩ 1 1 (RowAt.mk (rowN3) (some ⟨wp2.heap.size, 0, none⟩) 3).cells rfl rfl (World.news_of_block (by exact (heap_alloc2 wp2 _ _).2)) (cells_one _) (by decide) (by unfold maxLen; omega) (by omega) (by simp; omega) (wp2.heap.size + 2) (by simp) ?_; intro g cap w7 hown hgrow hat hlt3'))
          have hb2 : Below wp2.heap.size wp2 (wp2.alloc (.cells ([sPure, sSorted, sSugar].map Value.string).toArray 9)) := (Below.refl _ _).alloc (Nat.le_refl _) _
          have hst := HR2.out.step rowN3 hsz2 hb2 hn3 hgrow (by simpa using hat) hown
          have HR7 := Lib.hid hst
          have HB7 := Lib.hid (step_below HB2.out hsz2 hb2 hgrow HR2.out.own (Nat.le_refl _))
          have hsz7 := HB7.out.size
          have HA7 : Hid ((us2 ++ [RowAt.mk rowN3 (some ⟨wp2.heap.size, 0, none⟩) 3]).map RowAt.row = numRowsB) := by show _ = _; rw [List.map_append, HA2.out]; rfl
          clear hst hb2 hn3 hown hgrow hat
          rw [hul2] at HR7
          obtain ⟨wp3, rfl⟩ : ∃ x, x = w7 := ⟨_, rfl⟩
          go_wp2
          go_loopw [1, 49] (fun s1 s49 wx => ∃ (k : Nat) (us : List RowAt), k ≤ 2 ∧ s49 = .int .i64 (k : Int) ∧ us.map RowAt.row = numRowsB ++ (names3.take k).map rowN4 ∧ RowsOwn wx w.heap.size s1 us ∧ wx.heap[wp3.heap.size]? = some (.cells (names3.map Value.string).toArray 9) ∧ s1.ownBlock ≠ some wp3.heap.size ∧ Below w.heap.size w wx) (fun _ s49 _ => 2 - (intOf s49).toNat)
          case atStart => exact ⟨0, _, by omega, rfl, by rw [HA7.out]; rfl, HR7.out.below ((Below.refl _ _).alloc (Nat.le_refl _) _), heap_alloc_new _ _, fun e => by have := (HR7.out.own.lt _ e).2; omega, HB7.out.alloc hsz7 _⟩
          case round =>
            obtain ⟨k3, us3, hk3, rfl, hus, hrow, hblk, hne, hbel⟩ := hrel
            have hul3 : us3.length = 13 + k3 := by have := congrArg List.length hus; simp [numRowsA, numRowsB, names1, names2, names3] at this; omega
            have HU3 := Lib.hid hus
            have HR3 := Lib.hid hrow
            have HB3 := Lib.hid hbel
            have HBK := Lib.hid hblk
            have HNE := Lib.hid hne
            have hsz3 := hbel.size
            clear hus hrow hblk hne hbel
            by_cases hlt3 : k3 < 2
            · have e0 : wr.cell? ⟨wp3.heap.size, k3, none⟩ = some (.string (names3.getD k3 ⟨#[]⟩)) := by
                simp only [World.cell?, HBK.out]
                exact cells_at names3 hlt3 _
              have hns : (names3.getD k3 ⟨#[]⟩).size ≤ 9 := getD_size (by decide) hlt3 _
              generalize hnk : names3.getD k3 ⟨#[]⟩ = nk at e0 hns
              have HNK := Lib.hid hnk
              clear hnk
              have hn3 := names_new wr [sPure, sSorted, sSugar] _ rfl
              go_wp2_with (first
                | (at_builtin; refine wpList_append_lies _ rfl _ _ 44 rfl w.heap.size 63 i0 _ 6 72 Try.underlying44 hi hz0 hz1 hz2 rfl (by decide) u1 us3.length _ rfl (own_below HR3.out.own (((Below.refl _ _).alloc (Nat.le_refl _) _).alloc (by simp) _)) ⟨wr.heap.size + 1, 0, none⟩ 1 1 (RowAt.mk (rowN4 nk) (some ⟨wr.heap.size, 0, none⟩) 3).cells rfl rfl (World.news_of_block (by exact (heap_alloc2 wr _ _).2)) (cells_one _) (by decide) (by unfold maxLen; omega) (by omega) (by simp; omega) (wr.heap.size + 2) (by simp) ?_; intro g cap w7 hown hgrow hat hlt'))
              have hb2 : Below wr.heap.size wr (wr.alloc (.cells ([sPure, sSorted, sSugar].map Value.string).toArray 9)) := (Below.refl _ _).alloc (Nat.le_refl _) _
              have hst := HR3.out.step (rowN4 nk) hsz3 hb2 hn3 hgrow (by simpa using hat) hown
              have H1 := Lib.hid hst
              have H2 := Lib.hid (step_block hb2 hgrow HBK.out HNE.out)
              have H3 := Lib.hid (step_below HB3.out hsz3 hb2 hgrow HR3.out.own (Nat.le_refl _))
              have H4 : Hid ((Value.slice (some ⟨g, 0, none⟩) (us3.length + 1) cap).ownBlock ≠ some wp3.heap.size) := fun e => by
                have e' : g = wp3.heap.size := by injection e
                rcases hat with h | h
                · exact HNE.out (by rw [h, e'])
                · have := heap_lt HBK.out; omega
              clear hst hb2 hn3 hown hgrow hat
              rw [hul3] at H1 H4
              go_wp2
              go_roundw
              case rel => exact ⟨k3 + 1, us3 ++ [⟨rowN4 nk, _, _⟩], by omega, by go_num, take_row hlt3 ⟨#[]⟩ HU3.out (by rw [HNK.out]), H1.out, H2.out, H4.out, H3.out⟩
              case measure => simp [intOf]; omega
            · have HKE3 : Hid (k3 = 2) := (by omega : k3 = 2)
              go_wp2
              go_ret
              exact ⟨_, us3, rfl, HR3.out, by have h := HU3.out; rw [HKE3.out] at h; exact h, HB3.out⟩
end Go.Proofs.Ytcdjnkeomaidaaa
