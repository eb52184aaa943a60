/-
  Rows, NumRows: walks. Conditions: the kit lies in memory.
-/
import Derived.Test.YthjpphojddbbmaaGreatDoorKitName
import Derived.Test.YthjpphojddbbmaaGreatDoorKitTold
namespace Go.Proofs.YthjpphojddbbmaaGreatDoor
open Go.RowKit
set_option linter.unusedVariables false

theorem KitIn.keepOld {w w' : World} {M KB : Nat} {name : ByteArray} {m v : Value} {ts : List RowAt} (h : KitIn w M KB name m v ts) (hb : Below w.heap.size w w') : KitIn w' M KB name m v ts := h.below hb
theorem RowAt.eta (t : RowAt) {r : RowD} (h : t.row = r) : t = ⟨r, t.at_, t.cap⟩ := by subst h; rfl

set_option maxRecDepth 100000 in
set_option maxHeartbeats 4000000 in
theorem law_Rows {w : World} {M : Nat} {name : ByteArray} {m v : Value} {ts : List RowAt} (h : KitIn w M (M + 1) name m v ts) (hlen : ts.length ≤ 1000000) (hab : ∀ k (h : k < ts.length), 0 < ts[k].row.abil.length ∧ ts[k].row.abil.length ≤ 140737488351)
    (hdis : ∀ k (h : k < ts.length), ∀ j (h : j < k), (ts[j]'(by omega)).row.kind ≠ ts[k].row.kind) (us : List RowAt) (hus : us.map RowAt.row = ts.map RowAt.row) (A : Option Addr) (c : Nat) (hA : RowsIn w (· < w.heap.size) us A) :
    Calls Tryz.prog 18 #[.pointer (some ⟨M + 1, 0, none⟩), .string name, .slice A us.length c] w (Bel (.bool true) w) := by
  have hlu : us.length = ts.length := by have := congrArg List.length hus; simpa using this
  have hrow : ∀ k (h : k < ts.length) (h' : k < us.length), us[k].row = ts[k].row := fun k h h' => by
    have := congrArg (fun l => l[k]?) hus
    simpa [h, h'] using this
  have HN := Lib.hid (kit_Name h)
  have HRS := Lib.hid (kit_Rows h hlen hab)
  have HK := Lib.hid h
  have HAB := Lib.hid hab
  have HD := Lib.hid hdis
  have HU := Lib.hid hA
  have HRW := Lib.hid hrow
  have HLU := Lib.hid hlu
  have hnn := bytes_same name
  rw [hlu]
  clear h hab hdis hA hus hrow hlu
  go_enter Tryz.func18, Tryz.ntmps18
  go_wp2_with fail
  refine HN.out.mono ?_
  rintro e w' ⟨rfl, rfl⟩
  go_wp2_with fail
  refine HRS.out.mono ?_
  rintro e w1 ⟨v1, ts1, rfl, hown, hts1, hb1⟩
  obtain ⟨A1, c1, rfl, hA1⟩ := hown.lies
  have hl1 : ts1.length = ts.length := by have := congrArg List.length hts1; simpa using this
  have hrow1 : ∀ k (h : k < ts.length) (h' : k < ts1.length), ts1[k].row = ts[k].row := fun k h h' => by
    have := congrArg (fun l => l[k]?) hts1
    simpa [h, h'] using this
  have HR1 := Lib.hid hrow1
  have HL1 := Lib.hid hl1
  have HT := Lib.hid (hA1.keep (S' := (· < w1.heap.size)) (fun _ _ _ => rfl) (fun b hb => hb.2))
  have HB1 := Lib.hid hb1
  have hs1 := hb1.size
  rw [hl1]
  clear hown hts1 hb1 hA1 hl1 hrow1
  go_wp2
  go_loopw [8] (fun s8 wr => ∃ (k : Nat), k ≤ ts.length ∧ s8 = .int .i64 (k : Int) ∧ Below w1.heap.size w1 wr) (fun s8 _ => ts.length - (intOf s8).toNat)
  case atStart => exact ⟨0, Nat.zero_le _, rfl, Below.refl _ _⟩
  case round =>
    obtain ⟨k, hk, rfl, hbel⟩ := hrel
    have HB := Lib.hid hbel
    have hsz := hbel.size
    clear hbel
    by_cases hlt : k < ts.length
    · have hbw : Below w.heap.size w wr := HB1.out.trans (HB.out.mono hs1)
      obtain ⟨b, o, rfl, hbb, hrows⟩ := HU.out (by have := HLU.out; omega)
      obtain ⟨hcells, hnames⟩ := hrows k (by have := HLU.out; omega)
      obtain ⟨b2, o2, rfl, hbb2, hrows2⟩ := HT.out (by have := HL1.out; omega)
      obtain ⟨hcells2, hnames2⟩ := hrows2 k (by have := HL1.out; omega)
      have hku : k < us.length := by have := HLU.out; omega
      have hk1 : k < ts1.length := by have := HL1.out; omega
      rw [RowAt.eta us[k] (HRW.out k hlt _)] at hcells hnames
      rw [RowAt.eta ts1[k] (HR1.out k hlt _)] at hcells2 hnames2
      generalize us[k].at_ = au at hcells hnames
      generalize us[k].cap = cu at hcells hnames
      generalize ts1[k].at_ = at2 at hcells2 hnames2
      generalize ts1[k].cap = ct2 at hcells2 hnames2
      have hc1 : ∀ j, j < 6 → wr.cell? ⟨b, o + k * 6 + j, none⟩ = (RowAt.mk ts[k].row au cu).cells[j]? := fun j hj => (hbw.cell (p := ⟨b, _, none⟩) hbb).trans (hcells j hj)
      have hc2 : ∀ j, j < 6 → wr.cell? ⟨b2, o2 + k * 6 + j, none⟩ = (RowAt.mk ts[k].row at2 ct2).cells[j]? := fun j hj => (HB.out.cell (p := ⟨b2, _, none⟩) hbb2).trans (hcells2 j hj)
      have e0 : wr.cell? ⟨b, o + k * 6, none⟩ = some (.string ts[k].row.kind) := hc1 0 (by omega)
      have e1 : wr.cell? ⟨b, o + k * 6 + 1, none⟩ = some (.int .i64 ts[k].row.min) := hc1 1 (by omega)
      have e2 : wr.cell? ⟨b, o + k * 6 + 2, none⟩ = some (.int .i64 ts[k].row.max) := hc1 2 (by omega)
      have e3 : wr.cell? ⟨b, o + k * 6 + 3, none⟩ = some (.bool ts[k].row.num) := hc1 3 (by omega)
      have e4 : wr.cell? ⟨b, o + k * 6 + 4, none⟩ = some (.int .i64 ts[k].row.text) := hc1 4 (by omega)
      have e5 : wr.cell? ⟨b, o + k * 6 + 5, none⟩ = some (.slice au ts[k].row.abil.length cu) := hc1 5 (by omega)
      have d0 : wr.cell? ⟨b2, o2 + k * 6, none⟩ = some (.string ts[k].row.kind) := hc2 0 (by omega)
      have d1 : wr.cell? ⟨b2, o2 + k * 6 + 1, none⟩ = some (.int .i64 ts[k].row.min) := hc2 1 (by omega)
      have d2 : wr.cell? ⟨b2, o2 + k * 6 + 2, none⟩ = some (.int .i64 ts[k].row.max) := hc2 2 (by omega)
      have d3 : wr.cell? ⟨b2, o2 + k * 6 + 3, none⟩ = some (.bool ts[k].row.num) := hc2 3 (by omega)
      have d4 : wr.cell? ⟨b2, o2 + k * 6 + 4, none⟩ = some (.int .i64 ts[k].row.text) := hc2 4 (by omega)
      have d5 : wr.cell? ⟨b2, o2 + k * 6 + 5, none⟩ = some (.slice at2 ts[k].row.abil.length ct2) := hc2 5 (by omega)
      have hsw := hbw.size
      have NU := Lib.hid ((hnames.below hbw).keep (S' := (· < wr.heap.size)) (fun _ _ _ => rfl) (fun b hb => Nat.lt_of_lt_of_le hb hsw))
      have NT := Lib.hid ((hnames2.below HB.out).keep (S' := (· < wr.heap.size)) (fun _ _ _ => rfl) (fun b hb => Nat.lt_of_lt_of_le hb hsz))
      have hrc := Lib.hid (kit_Row (HK.out.keepOld hbw) hlen k hlt (HAB.out k hlt) (HD.out k hlt))
      have hab := HAB.out k hlt
      have HBW := Lib.hid hbw
      clear hc1 hc2 hcells hcells2 hnames hnames2 hrows hrows2 hbw
      go_wp2_with fail
      refine hrc.out.mono ?_
      rintro e w2 ⟨A3, c3, rfl, hA3, hb2⟩
      have HB2 := Lib.hid hb2
      have hs2 := hb2.size
      have NR := Lib.hid hA3
      clear hb2 hA3
      unfold RowD.val
      go_wp2
      have hby : Below wr.heap.size wr (w2.alloc (.cells #[.string ts[k].row.kind, .int .i64 ts[k].row.min, .int .i64 ts[k].row.max, .bool ts[k].row.num, .int .i64 ts[k].row.text, .slice A3 ts[k].row.abil.length c3] 81)) := HB2.out.alloc HB2.out.size _
      have hyr : ∀ j, (w2.alloc (.cells #[.string ts[k].row.kind, .int .i64 ts[k].row.min, .int .i64 ts[k].row.max, .bool ts[k].row.num, .int .i64 ts[k].row.text, .slice A3 ts[k].row.abil.length c3] 81)).cell? ⟨w2.heap.size, j, none⟩ = (#[.string ts[k].row.kind, .int .i64 ts[k].row.min, .int .i64 ts[k].row.max, .bool ts[k].row.num, .int .i64 ts[k].row.text, .slice A3 ts[k].row.abil.length c3] : Array Value)[j]? := fun j => World.cell?_alloc_new _ _ _ _
      have NR1 := Lib.hid ((NR.out.below ((Below.refl w2.heap.size w2).alloc (Nat.le_refl _) _)).keep (w' := (w2.alloc (.cells #[.string ts[k].row.kind, .int .i64 ts[k].row.min, .int .i64 ts[k].row.max, .bool ts[k].row.num, .int .i64 ts[k].row.text, .slice A3 ts[k].row.abil.length c3] 81))) (S' := (· < (w2.alloc (.cells #[.string ts[k].row.kind, .int .i64 ts[k].row.min, .int .i64 ts[k].row.max, .bool ts[k].row.num, .int .i64 ts[k].row.text, .slice A3 ts[k].row.abil.length c3] 81)).heap.size)) (fun _ _ _ => rfl) (fun b hb => by rw [size_alloc]; exact Nat.lt_succ_of_lt hb))
      generalize (w2.alloc (.cells #[.string ts[k].row.kind, .int .i64 ts[k].row.min, .int .i64 ts[k].row.max, .bool ts[k].row.num, .int .i64 ts[k].row.text, .slice A3 ts[k].row.abil.length c3] 81)) = y at *
      have hsy := hby.size
      have NU1 := Lib.hid ((NU.out.below hby).keep (S' := (· < y.heap.size)) (fun _ _ _ => rfl) (fun b hb => Nat.lt_of_lt_of_le hb hsy))
      have NT1 := Lib.hid ((NT.out.below hby).keep (S' := (· < y.heap.size)) (fun _ _ _ => rfl) (fun b hb => Nat.lt_of_lt_of_le hb hsy))
      have up : ∀ (x : Ext y) (l : List ByteArray) (B : Option Addr), NamesIn y (· < y.heap.size) l B → NamesIn x.now (· < x.now.heap.size) l B := fun x l B hl => (hl.below x.ok).keep (fun _ _ _ => rfl) (fun b hb => Nat.lt_of_lt_of_le hb x.ok.size)
      have HE1 := Lib.hid (fun x : Ext y => eq_row ts[k].row (by omega) at2 au ct2 cu x.now (up x _ _ NT1.out) (up x _ _ NU1.out))
      have HE2 := Lib.hid (fun x : Ext y => eq_row ts[k].row (by omega) A3 au c3 cu x.now (up x _ _ NR1.out) (up x _ _ NU1.out))
      unfold RowD.val at HE1 HE2
      have E0 := Ext.cell (w := y) ((hby.cell (p := ⟨b, _, none⟩) (World.block_lt_of_cell? _ _ e0)).trans e0)
      have D0 := Ext.cell (w := y) ((hby.cell (p := ⟨b2, _, none⟩) (World.block_lt_of_cell? _ _ d0)).trans d0)
      have E1 := Ext.cell (w := y) ((hby.cell (p := ⟨b, _, none⟩) (World.block_lt_of_cell? _ _ e1)).trans e1)
      have D1 := Ext.cell (w := y) ((hby.cell (p := ⟨b2, _, none⟩) (World.block_lt_of_cell? _ _ d1)).trans d1)
      have E2 := Ext.cell (w := y) ((hby.cell (p := ⟨b, _, none⟩) (World.block_lt_of_cell? _ _ e2)).trans e2)
      have D2 := Ext.cell (w := y) ((hby.cell (p := ⟨b2, _, none⟩) (World.block_lt_of_cell? _ _ d2)).trans d2)
      have E3 := Ext.cell (w := y) ((hby.cell (p := ⟨b, _, none⟩) (World.block_lt_of_cell? _ _ e3)).trans e3)
      have D3 := Ext.cell (w := y) ((hby.cell (p := ⟨b2, _, none⟩) (World.block_lt_of_cell? _ _ d3)).trans d3)
      have E4 := Ext.cell (w := y) ((hby.cell (p := ⟨b, _, none⟩) (World.block_lt_of_cell? _ _ e4)).trans e4)
      have D4 := Ext.cell (w := y) ((hby.cell (p := ⟨b2, _, none⟩) (World.block_lt_of_cell? _ _ d4)).trans d4)
      have E5 := Ext.cell (w := y) ((hby.cell (p := ⟨b, _, none⟩) (World.block_lt_of_cell? _ _ e5)).trans e5)
      have D5 := Ext.cell (w := y) ((hby.cell (p := ⟨b2, _, none⟩) (World.block_lt_of_cell? _ _ d5)).trans d5)
      have R0 := Ext.cell (w := y) (show y.cell? ⟨w2.heap.size, 0, none⟩ = some (.string ts[k].row.kind) from hyr 0)
      have R1 := Ext.cell (w := y) (show y.cell? ⟨w2.heap.size, 1, none⟩ = some (.int .i64 ts[k].row.min) from hyr 1)
      have R2 := Ext.cell (w := y) (show y.cell? ⟨w2.heap.size, 2, none⟩ = some (.int .i64 ts[k].row.max) from hyr 2)
      have R3 := Ext.cell (w := y) (show y.cell? ⟨w2.heap.size, 3, none⟩ = some (.bool ts[k].row.num) from hyr 3)
      have R4 := Ext.cell (w := y) (show y.cell? ⟨w2.heap.size, 4, none⟩ = some (.int .i64 ts[k].row.text) from hyr 4)
      have R5 := Ext.cell (w := y) (show y.cell? ⟨w2.heap.size, 5, none⟩ = some (.slice A3 ts[k].row.abil.length c3) from hyr 5)
      have HBY := Lib.hid (HB.out.trans (hby.mono hsz))
      clear hyr up e0 e1 e2 e3 e4 e5 d0 d1 d2 d3 d4 d5 hby
      refine wp_region_ext (by kernel_rfl) (by kernel_rfl) ?_
      go_big_quiet_step (fail)
      go_big_quiet_step (fail)
      go_big_quiet_step (fail)
      go_big_quiet_step (fail)
      go_big_quiet_step (fail)
      go_big_quiet_step (fail)
      go_big_quiet_step (fail)
      go_big_quiet_step (fail)
      go_big_quiet_step (fail)
      go_big_quiet_step (fail)
      go_big_quiet_step (fail)
      go_big_quiet_step ((go_at_call 35; exact Calls.ext_of (HE1.out _)))
      go_big_quiet_step (fail)
      go_big_quiet_step (fail)
      go_big_quiet_step (fail)
      go_big_quiet_step (fail)
      go_big_quiet_step (fail)
      go_big_quiet_step (fail)
      go_big_quiet_step (fail)
      go_big_quiet_step (fail)
      go_big_quiet_step ((go_at_call 35; exact Calls.ext_of (HE2.out _)))
      go_big_quiet_step (fail)
      go_big_quiet_step (fail)
      refine wpQuiet_nil ?_
      rintro _ ⟨z, rfl⟩
      have HZ := Lib.hid (HBY.out.trans (z.ok.mono (Nat.le_trans hsz hsy)))
      clear E0 E1 E2 E3 E4 E5 D0 D1 D2 D3 D4 D5 R0 R1 R2 R3 R4 R5
      go_wp2
      go_roundw
      case rel => exact ⟨k + 1, by omega, by go_num, HZ.out⟩
      case measure => simp [intOf]; omega
    · go_wp2
      go_ret
      exact ⟨rfl, HB1.out.trans (HB.out.mono hs1)⟩
end Go.Proofs.YthjpphojddbbmaaGreatDoor
