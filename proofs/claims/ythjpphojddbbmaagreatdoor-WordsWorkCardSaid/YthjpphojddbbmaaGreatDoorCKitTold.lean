/-
  Kit.Rows, Kit.Row, EqNames, EqRow: walks. Conditions: the kit lies in memory; the rows are alike.
-/
import Derived.Test.YthjpphojddbbmaaGreatDoorCKitNew
namespace Go.Proofs.YthjpphojddbbmaaGreatDoor
open Go.RowKit
set_option linter.unusedVariables false

/-- Rows that are told: of the call's own making. -/
def ToldPost (rs : List RowD) (w : World) (e : Ending) (w' : World) : Prop := ∃ v ts, e = .returned v ∧ RowsOwn w' w.heap.size v ts ∧ ts.map RowAt.row = rs ∧ Below w.heap.size w w'

set_option maxHeartbeats 1000000 in
theorem eq_names (l : List ByteArray) (A B : Option Addr) (c d : Nat) (w : World) (S T : Nat → Prop) (hlen : l.length ≤ 140737488351232) (hA : NamesIn w S l A) (hB : NamesIn w T l B) :
    Calls Tryz.prog 69 #[.slice A l.length c, .slice B l.length d] w fun e w' => e = .returned (.bool true) ∧ ∃ n, w' = w.drewN n := by
  have HA := Lib.hid hA
  have HB := Lib.hid hB
  clear hA hB
  go_enter Tryz.func69, Tryz.ntmps69
  go_wp2
  go_loopw [5] (fun s5 wr => ∃ (k n : Nat), k ≤ l.length ∧ s5 = .int .i64 (k : Int) ∧ wr = w.drewN n) (fun s5 _ => l.length - (intOf s5).toNat)
  case atStart => exact ⟨0, 0, Nat.zero_le _, rfl, rfl⟩
  case round =>
    obtain ⟨k, n, hk, rfl, rfl⟩ := hrel
    by_cases hlt : k < l.length
    · obtain ⟨b, o, rfl, hb, hc⟩ := HA.out (by omega)
      obtain ⟨b', o', rfl, hb', hc'⟩ := HB.out (by omega)
      have h1 := hc k hlt
      have h2 := hc' k hlt
      clear hc hc'
      generalize l.getD k ByteArray.empty = s at h1 h2
      go_wp2
      go_quiet (fail)
      go_wp2
      go_roundw
      case rel => exact ⟨k + 1, _, by omega, by go_num, by first | rfl | (rw [World.drewN_drewN])⟩
      case measure => simp [intOf]; omega
    · go_wp2
      go_ret
      exact ⟨rfl, n, rfl⟩

theorem eq_row (r : RowD) (hlen : r.abil.length ≤ 140737488351232) (A B : Option Addr) (c d : Nat) (w : World) (hA : NamesIn w (· < w.heap.size) r.abil A) (hB : NamesIn w (· < w.heap.size) r.abil B) :
    Calls Tryz.prog 35 #[r.val A c, r.val B d] w (Bel (.bool true) w) := by
  have hbx : Hid (Below w.heap.size w ((w.alloc (.cells #[.string r.kind, .int .i64 r.min, .int .i64 r.max, .bool r.num, .int .i64 r.text, .slice A r.abil.length c] 81)).alloc (.cells #[.string r.kind, .int .i64 r.min, .int .i64 r.max, .bool r.num, .int .i64 r.text, .slice B r.abil.length d] 81))) := ((Below.refl _ _).alloc (Nat.le_refl _) _).alloc (by simp) _
  have he := Lib.hid (eq_names r.abil A B c d _ _ _ hlen (hA.below hbx.out) (hB.below hbx.out))
  clear hA hB
  have hkk := bytes_same r.kind
  unfold RowD.val
  go_enter Tryz.func35, Tryz.ntmps35
  go_wp2_with fail
  refine he.out.mono ?_
  rintro e w' ⟨rfl, n, rfl⟩
  go_wp2
  go_ret
  exact ⟨rfl, below_drewN hbx.out n⟩

set_option maxRecDepth 100000 in
set_option maxHeartbeats 4000000 in
theorem kit_Rows {w : World} {M KB : Nat} {name : ByteArray} {m v : Value} {ts : List RowAt} (h : KitIn w M KB name m v ts) (hlen : ts.length ≤ 1000000) (hab : ∀ k (h : k < ts.length), 0 < ts[k].row.abil.length ∧ ts[k].row.abil.length ≤ 140737488351) :
    Calls Tryz.prog 33 #[.pointer (some ⟨KB, 0, none⟩)] w (ToldPost (ts.map RowAt.row) w) := by
  obtain ⟨i0, hi, hz0, hz1, hz2⟩ := info_parts info_row
  have hc1 : w.cell? ⟨KB, 1, none⟩ = some v := by simp [World.cell?, h.kit]
  have HH := Lib.hid h
  have HAB := Lib.hid hab
  obtain ⟨A0, c0, hv, hlies⟩ : ∃ A c, v = .slice A ts.length c ∧ RowsIn w (· < w.heap.size) ts A := by
    obtain ⟨A, c, e, hl⟩ := (RowsOwn.mk h.own h.names).lies
    exact ⟨A, c, e, hl.keep (fun _ _ _ => rfl) (fun b hb => hb.2)⟩
  subst hv
  have HL := Lib.hid hlies
  clear h hab hlies
  go_enter Tryz.func33, Tryz.ntmps33
  go_wp2
  go_loopw [3, 11] (fun s3 s11 wr => ∃ (k : Nat) (us : List RowAt), k ≤ ts.length ∧ s11 = .int .i64 (k : Int) ∧ us.map RowAt.row = (ts.map RowAt.row).take k ∧ RowsOwn wr w.heap.size s3 us ∧ Below w.heap.size w wr) (fun _ s11 _ => ts.length - (intOf s11).toNat)
  case atStart => exact ⟨0, [], Nat.zero_le _, rfl, by simp, RowsOwn.nil _ _, Below.refl _ _⟩
  case round =>
    obtain ⟨k, us, hk, rfl, hus, hrow, hbel⟩ := hrel
    have hul : us.length = k := by have := congrArg List.length hus; simp at this; omega
    have HU := Lib.hid hus
    have HR := Lib.hid hrow
    have HB := Lib.hid hbel
    have hsz := hbel.size
    clear hus hrow hbel
    by_cases hlt : k < ts.length
    · obtain ⟨b, o, rfl, hbb, hrows⟩ := HL.out (by omega)
      obtain ⟨hcells, hnames⟩ := hrows k hlt
      have HNM := Lib.hid (hnames.below HB.out)
      have hc : ∀ j, j < 6 → wr.cell? ⟨b, o + k * 6 + j, none⟩ = ts[k].cells[j]? := fun j hj => (HB.out.cell (p := ⟨b, _, none⟩) hbb).trans (hcells j hj)
      have e0 : wr.cell? ⟨b, o + k * 6, none⟩ = some (.string ts[k].row.kind) := hc 0 (by omega)
      have e1 : wr.cell? ⟨b, o + k * 6 + 1, none⟩ = some (.int .i64 ts[k].row.min) := hc 1 (by omega)
      have e2 : wr.cell? ⟨b, o + k * 6 + 2, none⟩ = some (.int .i64 ts[k].row.max) := hc 2 (by omega)
      have e3 : wr.cell? ⟨b, o + k * 6 + 3, none⟩ = some (.bool ts[k].row.num) := hc 3 (by omega)
      have e4 : wr.cell? ⟨b, o + k * 6 + 4, none⟩ = some (.int .i64 ts[k].row.text) := hc 4 (by omega)
      have e5 : wr.cell? ⟨b, o + k * 6 + 5, none⟩ = some (.slice ts[k].at_ ts[k].row.abil.length ts[k].cap) := hc 5 (by omega)
      clear hc hcells hnames hrows
      have hcp := Lib.hid (kit_copied ts[k].row (HAB.out k hlt).1 (HAB.out k hlt).2 ts[k].at_ ts[k].cap (wr.alloc (.cells #[.string ts[k].row.kind, .int .i64 ts[k].row.min, .int .i64 ts[k].row.max, .bool ts[k].row.num, .int .i64 ts[k].row.text, .slice ts[k].at_ ts[k].row.abil.length ts[k].cap] 81))
        ((HNM.out.below ((Below.refl w.heap.size wr).alloc hsz _)).keep (fun _ _ _ => rfl) (fun b hb => by have : b < w.heap.size := hb; simp; omega)))
      unfold RowD.val at hcp
      go_wp2_with fail
      refine hcp.out.mono ?_
      rintro e w6 ⟨A1, c1, rfl, hA1, hb6⟩
      have hb6' : Below wr.heap.size wr w6 := ((Below.refl _ _).alloc (Nat.le_refl _) _).trans (hb6.mono (by simp))
      have hA1' : NamesIn w6 (fresh wr w6) ts[k].row.abil A1 := hA1.keep (fun _ _ _ => rfl) (fun b hb => ⟨by have := hb.1; rw [size_alloc] at this; omega, hb.2⟩)
      have HA1 := Lib.hid hA1'
      have HB6 := Lib.hid hb6'
      have hs6 := hb6'.size
      clear hA1 hb6 hA1' hb6' e0 e1 e2 e3 e4 e5
      unfold RowD.val
      go_wp2_with (at_builtin; refine wpList_append_lies _ rfl _ _ 53 rfl w.heap.size 81 i0 _ 6 72 Tryz.underlying53 hi hz0 hz1 hz2 rfl (by decide) u3 us.length _ rfl ((own_below HR.out.own HB6.out).alloc _) ⟨w6.heap.size, 0, none⟩ 1 1 (RowAt.mk ts[k].row A1 c1).cells rfl rfl (World.news_of_block (by exact heap_alloc_new w6 _)) (cells_one _) (by decide) (by unfold maxLen; omega) (by omega) (by simp; omega) (w6.heap.size + 1) (by simp) ?_; intro g cap w7 hown hgrow hat hlt')
      have hst := HR.out.step ts[k].row hsz HB6.out HA1.out hgrow hat hown
      have H1 := Lib.hid hst
      have H3 := Lib.hid (step_below HB.out hsz HB6.out hgrow HR.out.own (Nat.le_refl _))
      clear hst hown hgrow hat
      rw [hul] at H1
      go_wp2
      go_roundw
      case rel => exact ⟨k + 1, us ++ [⟨ts[k].row, _, _⟩], by omega, by go_num, (by rw [List.map_append, HU.out]; simp [List.take_add_one, hlt]), H1.out, H3.out⟩
      case measure => simp [intOf]; omega
    · have HKE : Hid (k = ts.length) := (by omega : k = ts.length)
      go_wp2
      go_ret
      exact ⟨_, us, rfl, HR.out, HU.out.trans (List.take_of_length_le (by have := HKE.out; simp; omega)), HB.out⟩

end Go.Proofs.YthjpphojddbbmaaGreatDoor
