/-
  kit.New on rows that may be: a walk. Conditions: the rows may be, their kinds are of the kit and apart.
-/
import Derived.Test.YthjpphojddbbmaaGreatDoorKitNewB
import Derived.StillTailTactics
import Derived.Carry
namespace Go.Proofs.YthjpphojddbbmaaGreatDoor
open Go.RowKit
set_option linter.unusedVariables false

/-- What kit.New has made. -/
def NewPost (name : ByteArray) (m : Value) (rs : List RowD) (w : World) (e : Ending) (w' : World) : Prop :=
  ∃ M v ts, w.heap.size ≤ M ∧ e = .returned (.tuple #[.pointer (some ⟨M + 1, 0, none⟩), .nilIface]) ∧ KitIn w' M (M + 1) name m v ts ∧ ts.map RowAt.row = rs ∧ Below w.heap.size w w'

set_option maxRecDepth 100000 in
set_option maxHeartbeats 4000000 in
theorem kit_new (name : ByteArray) (f : FuncId) (ts : List RowAt) (A : Option Addr) (c : Nat) (w : World) (hn : wordB name = true) (hns : name.size ≤ 140737488351232) (h0 : 0 < ts.length) (h1 : ts.length ≤ 1000000)
    (hok : ∀ k (h : k < ts.length), ts[k].row.ok ∧ (kindV ts[k].row.kind).1 = name ∧ ∀ m (h : m < k), (ts[m]'(by omega)).row.kind ≠ ts[k].row.kind) (hA : RowsIn w (· < w.heap.size) ts A) :
    Calls Tryz.prog 36 #[.string name, .slice A ts.length c, .func (.func f) #[] #[]] w (NewPost name (.func (.func f) #[] #[]) (ts.map RowAt.row) w) := by
  have HOK := Lib.hid hok
  have HA := Lib.hid hA
  have HN := Lib.hid hn
  have hw := Lib.hid (sign_Word name w hns)
  have hfn : ∀ w, (binOp .eql 92 (.func (.func f) #[] #[]) .nilFunc).run Tryz.prog w = .ok (.bool false) w := fun w => by kernel_rfl
  have hmk : ∀ w, (Instr.makeMap 91 none).run Tryz.prog w = .ok (.map (some w.heap.size)) (w.alloc (.map #[] 0)) := fun w => by kernel_rfl
  clear hok hA hn
  go_enter Tryz.func36, Tryz.ntmps36
  go_wp2_with fail
  refine hw.out.mono ?_
  rintro e w1 ⟨rfl, hb1⟩
  rw [HN.out]
  have HB1 := Lib.hid hb1
  have hs1 := hb1.size
  clear hb1
  go_wp2
  have hkb : ((w1.alloc (.map #[] 0)).alloc (.cells #[.string name, .slice none 0 0, .map (some w1.heap.size), .func (.func f) #[] #[]] 94)).heap.size = w1.heap.size + 2 := by simp
  go_loopw [38] (fun s38 wr => ∃ (k : Nat) (v : Value) (us : List RowAt), k ≤ ts.length ∧ s38 = .int .i64 (k : Int) ∧ us.map RowAt.row = (ts.map RowAt.row).take k ∧ KitIn wr w1.heap.size (w1.heap.size + 1) name (.func (.func f) #[] #[]) v us ∧ Below w.heap.size w wr) (fun s38 _ => ts.length - (intOf s38).toNat)
  case atStart =>
    refine ⟨0, .slice none 0 0, [], Nat.zero_le _, rfl, by simp, ⟨?_, ?_, World.ownsRow_nil _ _ _ _, fun k h => absurd h (by simp)⟩, (HB1.out.alloc hs1 _).alloc (by simp; omega) _⟩
    · exact (heap_alloc2 w1 _ _).1
    · exact (heap_alloc2 w1 _ _).2
  case round =>
    obtain ⟨k, v, us, hk, rfl, hus, hkit, hbel⟩ := hrel
    have HU := Lib.hid hus
    have HK := Lib.hid hkit
    have HBL := Lib.hid hbel
    have hul : us.length = k := by have := congrArg List.length hus; simp at this; omega
    have hsz := hbel.size
    clear hus hbel hkit
    by_cases hlt : k < ts.length
    · obtain ⟨b, o, rfl, hbb, hrows⟩ := HA.out h0
      obtain ⟨hcells, hnames⟩ := hrows k hlt
      obtain ⟨hrok, hrname, hrtwice⟩ := HOK.out k hlt
      have HNM0 := Lib.hid hnames
      have HNM := Lib.hid (hnames.below HBL.out)
      have HROK := Lib.hid hrok
      have HRN := Lib.hid hrname
      have HRT := Lib.hid hrtwice
      have hc : ∀ j, j < 6 → wr.cell? ⟨b, o + k * 6 + j, none⟩ = ts[k].cells[j]? := fun j hj => (HBL.out.cell (p := ⟨b, _, none⟩) hbb).trans (hcells j hj)
      have e0 : wr.cell? ⟨b, o + k * 6, none⟩ = some (.string ts[k].row.kind) := hc 0 (by omega)
      have e1 : wr.cell? ⟨b, o + k * 6 + 1, none⟩ = some (.int .i64 ts[k].row.min) := hc 1 (by omega)
      have e2 : wr.cell? ⟨b, o + k * 6 + 2, none⟩ = some (.int .i64 ts[k].row.max) := hc 2 (by omega)
      have e3 : wr.cell? ⟨b, o + k * 6 + 3, none⟩ = some (.bool ts[k].row.num) := hc 3 (by omega)
      have e4 : wr.cell? ⟨b, o + k * 6 + 4, none⟩ = some (.int .i64 ts[k].row.text) := hc 4 (by omega)
      have e5 : wr.cell? ⟨b, o + k * 6 + 5, none⟩ = some (.slice ts[k].at_ ts[k].row.abil.length ts[k].cap) := hc 5 (by omega)
      clear hc hcells hnames hrok hrname hrtwice hrows
      have hmay := Lib.hid (kit_May ts[k].row HROK.out ts[k].at_ ts[k].cap (wr.alloc (.cells #[.string ts[k].row.kind, .int .i64 ts[k].row.min, .int .i64 ts[k].row.max, .bool ts[k].row.num, .int .i64 ts[k].row.text, .slice ts[k].at_ ts[k].row.abil.length ts[k].cap] 81))
        ((HNM.out.below ((Below.refl w.heap.size wr).alloc hsz _)).keep (fun _ _ _ => rfl) (fun b hb => by have : b < w.heap.size := hb; simp; omega)))
      unfold RowD.val at hmay
      go_wp2_with fail
      refine hmay.out.mono ?_
      rintro e w2 ⟨rfl, hb2⟩
      have hs2 := hb2.size
      rw [size_alloc] at hs2
      have hb2' : Below wr.heap.size wr w2 := ((Below.refl _ _).alloc (Nat.le_refl _) _).trans (hb2.mono (by simp))
      have HB2 := Lib.hid hb2'
      have r2 := (hb2.block wr.heap.size (by simp)).trans (heap_alloc_new wr _)
      have R2 := Lib.hid r2
      have c2 : w2.cell? ⟨wr.heap.size, 0, none⟩ = some (.string ts[k].row.kind) := by simp [World.cell?, r2]
      clear hb2 hb2' r2 e0 e1 e2 e3 e4 e5
      have hkd := Lib.hid (sign_Kind ts[k].row.kind w2 HROK.out.size)
      go_wp2_with fail
      refine hkd.out.mono ?_
      rintro e w3 ⟨rfl, hb3⟩
      obtain ⟨n1, n2, hkv⟩ := triple_true _ HROK.out.kind
      have hn1 : n1 = name := by have := HRN.out; rw [hkv] at this; exact this
      subst hn1
      rw [hkv]
      unfold cutT
      have hneq := bytes_same n1
      have hs3 := hb3.size
      have HB3 := Lib.hid (HB2.out.trans (hb3.mono HB2.out.size))
      have HK3 := Lib.hid (HK.out.below HB3.out)
      have R3 := Lib.hid ((hb3.block wr.heap.size (by omega)).trans R2.out)
      have HKV := Lib.hid hkv
      clear hb3 c2 hkv
      have hul3 : (us.map RowAt.row).length = k := by simp [hul]
      have hmiss : ∀ j i, Instr.findNow .string (.string ts[k].row.kind) (entr (us.map RowAt.row) j) i = some none := find_none _ _ (fun r hr => by
        rw [HU.out] at hr
        obtain ⟨m, hm, rfl⟩ := List.getElem_of_mem hr
        rw [List.length_take, List.length_map] at hm
        have := HRT.out m (by omega)
        simpa using this)
      have hlook : ∀ n, (Instr.lookup 91 (.map (some w1.heap.size)) (.string ts[k].row.kind) true).run Tryz.prog (w3.drewN n) = .ok (.tuple #[.int .i64 0, .bool false]) (w3.drewN n) := fun n =>
        run_lookup_miss (T := 91) (K := 9) (E := 3) (by kernel_rfl) (by kernel_rfl) (by kernel_rfl) HK3.out.map (hmiss 0 0)
      have k2 : w3.cell? ⟨w1.heap.size + 1, 2, none⟩ = some (.map (some w1.heap.size)) := by simp [World.cell?, HK3.out.kit]
      have c3 : w3.cell? ⟨wr.heap.size, 0, none⟩ = some (.string ts[k].row.kind) := by simp [World.cell?, R3.out]
      go_wp2
      go_quiet (fail)
      have hb4 : Below w3.heap.size w3 (w3.drewN nq) := below_drewN (Below.refl _ _) _
      have HK4 := Lib.hid (HK3.out.below hb4)
      have HB4 := Lib.hid (HBL.out.trans ((HB3.out.trans (hb4.mono HB3.out.size)).mono hsz))
      have r4 : (w3.drewN nq).heap[wr.heap.size]? = some (.cells #[.string ts[k].row.kind, .int .i64 ts[k].row.min, .int .i64 ts[k].row.max, .bool ts[k].row.num, .int .i64 ts[k].row.text, .slice ts[k].at_ ts[k].row.abil.length ts[k].cap] 81) := R3.out
      have R4 := Lib.hid r4
      have hs4 : (w3.drewN nq).heap.size = w3.heap.size := rfl
      have k4 : (w3.drewN nq).cell? ⟨w1.heap.size + 1, 2, none⟩ = some (.map (some w1.heap.size)) := k2
      have c4 : (w3.drewN nq).cell? ⟨wr.heap.size, 0, none⟩ = some (.string ts[k].row.kind) := c3
      clear hb4 r4 hlook k2 c3
      generalize w3.drewN nq = w4 at *
      go_wp2
      go_still_tail 7, (by kernel_rfl)
      change wpList _ _ _ _ _ w4.drew
      refine wpList_update_new w4.drew rfl 91 9 3 _ _ _ rfl (by kernel_rfl) (by kernel_rfl) (r := w1.heap.size) (entr (us.map RowAt.row) 0).toArray us.length ts[k].row.kind rfl rfl HK4.out.map (hmiss 0 0) ?_
      have hM : w1.heap.size < w4.heap.size := HK4.out.map_lt
      have HK5 := Lib.hid (HK4.out.entry (u := .int .i64 (k : Int)) (by omega) ts[k].row hul)
      have HB5 := Lib.hid (setB_below (r := w1.heap.size) (.map ((entr (us.map RowAt.row) 0).toArray.push ⟨.string ts[k].row.kind, .int .i64 (k : Int), us.length⟩) (us.length + 1)) (HB4.out.drew) hs1)
      have hs5 := setB_size w4.drew w1.heap.size (.map ((entr (us.map RowAt.row) 0).toArray.push ⟨.string ts[k].row.kind, .int .i64 (k : Int), us.length⟩) (us.length + 1))
      have R5 := Lib.hid ((setB_far w4.drew (r := w1.heap.size) (k := wr.heap.size) (.map ((entr (us.map RowAt.row) 0).toArray.push ⟨.string ts[k].row.kind, .int .i64 (k : Int), us.length⟩) (us.length + 1)) (by have := HK.out.map_lt; omega)).trans R4.out)
      have hs5' : w4.drew.heap.size = w4.heap.size := rfl
      generalize hw5 : setB w4.drew w1.heap.size (.map ((entr (us.map RowAt.row) 0).toArray.push ⟨.string ts[k].row.kind, .int .i64 (k : Int), us.length⟩) (us.length + 1)) = w5 at *
      change wpList _ _ _ _ _ (setB w4.drew w1.heap.size (.map ((entr (us.map RowAt.row) 0).toArray.push ⟨.string ts[k].row.kind, .int .i64 (k : Int), us.length⟩) (us.length + 1)))
      rw [hw5]
      clear k4 c4 hw5 hmiss
      have b1 : w5.cell? ⟨w1.heap.size + 1, 1, none⟩ = some v := by simp [World.cell?, HK5.out.kit]
      have hrow : ∀ j, w5.cell? ⟨wr.heap.size, j, none⟩ = (#[.string ts[k].row.kind, .int .i64 ts[k].row.min, .int .i64 ts[k].row.max, .bool ts[k].row.num, .int .i64 ts[k].row.text, .slice ts[k].at_ ts[k].row.abil.length ts[k].cap] : Array Value)[j]? := fun j => by simp [World.cell?, R5.out]
      have a0 := hrow 0
      have a1 := hrow 1
      have a2 := hrow 2
      have a3 := hrow 3
      have a4 := hrow 4
      have a5 := hrow 5
      simp at a0 a1 a2 a3 a4 a5
      have hcp := Lib.hid (kit_copied ts[k].row HROK.out.len.1 HROK.out.len.2 ts[k].at_ ts[k].cap w5.drew ((HNM0.out.below HB5.out.drew).keep (fun _ _ _ => rfl) (fun b hb => Nat.lt_of_lt_of_le hb HB5.out.size)))
      have HK5d := Lib.hid HK5.out.drew
      clear hrow
      obtain ⟨i0, hi, hz0, hz1, hz2⟩ := info_parts info_row
      go_wp2
      go_region_law (first
        | (refine step_append_lies _ rfl _ _ 53 rfl (w1.heap.size + 1 + 1) 81 i0 _ 6 72 Tryz.underlying53 hi hz0 hz1 hz2 rfl (by decide) v us.length _ rfl (own_below (own_below HK5d.out.own HB6.out) ((Below.refl _ _).alloc (Nat.le_refl _) _)) ⟨w6.heap.size, 0, none⟩ 1 1 (RowAt.mk ts[k].row A1 c1).cells rfl rfl (World.news_of_block (heap_alloc_new w6 _)) (cells_one _) (by decide) (by unfold maxLen; omega) (by omega) (by have := HK5d.out.kit_lt; have := HB6.out.size; rw [size_alloc]; omega) _ rfl ?_; intro g cap w7 hown hgrow hat hlt'; have hst := HK5d.out.store HB6.out hgrow; have st1 := hst.1; have st2 := hst.2; have HOW := Lib.hid hown; have HGR := Lib.hid hgrow; have HAT := Lib.hid hat; clear hst hown hgrow hat)
        | (go_simp; refine hcp.out.mono ?_; rintro e w6 ⟨A1, c1, rfl, hA1, hb6⟩; have HA1 := Lib.hid hA1; have HB6 := Lib.hid hb6; have d1 := (hb6.cell (p := ⟨w1.heap.size + 1, 1, none⟩) HK5d.out.kit_lt).trans b1; have d2 : ∀ Y, (w6.alloc Y).cell? ⟨w1.heap.size + 1, 1, none⟩ = some v := fun Y => alloc_cell Y d1; clear hA1 hb6; unfold RowD.val))
      all_goals
        have hfin := HK5d.out.copied (by omega) HB6.out HA1.out HGR.out (by have := HAT.out; rw [size_alloc] at this; exact this) HOW.out
        have HF := Lib.hid hfin
        have hbf := Lib.hid (((((HB5.out.drew).trans (HB6.out.mono HB5.out.size)).alloc (by have := HB6.out.size; have := HB5.out.size; show w.heap.size ≤ w6.heap.size; exact Nat.le_trans HB5.out.size HB6.out.size) _).grown HGR.out (Nat.le_trans (Nat.le_trans HB5.out.size HB6.out.size) (by simp)) (fun g hg => by have := (HK5d.out.own.lt g hg).1; omega)).setCell (p := ⟨w1.heap.size + 1, 1, none⟩) (by show w.heap.size ≤ w1.heap.size + 1; omega) (.slice (some ⟨g, 0, none⟩) (k + 1) cap))
        clear hfin d1 d2 st1 st2 hlt' a0 a1 a2 a3 a4 a5 b1 hs5 hs5' hs4
        rw [hul] at HF
        go_wp2
        go_roundw
        case rel => exact ⟨k + 1, _, us ++ [⟨ts[k].row, _, _⟩], by omega, by go_num, (by rw [List.map_append, HU.out]; simp [List.take_add_one, hlt]), HF.out, hbf.out⟩
        case measure => simp [intOf]; omega
    · obtain rfl : k = ts.length := by omega
      go_wp2
      go_ret2
      exact ⟨w1.heap.size, v, us, hs1, rfl, HK.out, HU.out.trans (List.take_of_length_le (by simp)), HBL.out⟩
end Go.Proofs.YthjpphojddbbmaaGreatDoor
