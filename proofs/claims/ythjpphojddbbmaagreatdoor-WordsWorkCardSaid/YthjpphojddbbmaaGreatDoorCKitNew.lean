/-
  Texts of a proof in one: KitNew, Rows1, KitOf, KitRow1. Conditions: each names its own.
-/
import Derived.Test.YthjpphojddbbmaaGreatDoorCKitNewA
import Derived.StillTailTactics
import Derived.Carry
/-
  kit.New on rows that may be: a walk. Conditions: the rows may be, their kinds are of the kit and apart.
-/
namespace Go.Proofs.YthjpphojddbbmaaGreatDoor
open Go.RowKit
set_option linter.unusedVariables false

/-- What kit.New has made. -/
def NewPost (name : ByteArray) (m : Value) (rs : List RowD) (w : World) (e : Ending) (w' : World) : Prop :=
  ∃ M v ts, w.heap.size ≤ M ∧ e = .returned (.tuple #[.pointer (some ⟨M + 1, 0, none⟩), .nilIface]) ∧ KitIn w' M (M + 1) name m v ts ∧ ts.map RowAt.row = rs ∧ Below w.heap.size w w'

set_option maxRecDepth 100000 in
set_option maxHeartbeats 4000000 in
theorem kit_new (name : ByteArray) (f : FuncId) (ts : List RowAt) (A : Option Addr) (c : Nat) (w : World) (hn : wordB name = true) (hns : name.size ≤ 140737488351232) (h0 : 0 < ts.length) (h1 : ts.length ≤ 1000000)
    (hok : ∀ k (h : k < ts.length), ts[k].row.ok ∧ (kindV ts[k].row.kind).1 = name ∧ ∀ m (h : m < k), (ts[m]'(by omega)).row.kind ≠ ts[k].row.kind) (hA : RowsIn w (· < w.heap.size) ts A) :
    Calls Tryz.prog 36 #[.string name, .slice A ts.length c, .func (.func f) #[] #[]] w (NewPost name (.func (.func f) #[] #[]) (ts.map RowAt.row) w) := by
  have HOK := Lib.hid hok
  have HA := Lib.hid hA
  have HN := Lib.hid hn
  have hw := Lib.hid (sign_Word name w hns)
  have hfn : ∀ w, (binOp .eql 92 (.func (.func f) #[] #[]) .nilFunc).run Tryz.prog w = .ok (.bool false) w := fun w => by kernel_rfl
  have hmk : ∀ w, (Instr.makeMap 91 none).run Tryz.prog w = .ok (.map (some w.heap.size)) (w.alloc (.map #[] 0)) := fun w => by kernel_rfl
  clear hok hA hn
  go_enter Tryz.func36, Tryz.ntmps36
  go_wp2_with fail
  refine hw.out.mono ?_
  rintro e w1 ⟨rfl, hb1⟩
  rw [HN.out]
  have HB1 := Lib.hid hb1
  have hs1 := hb1.size
  clear hb1
  go_wp2
  have hkb : ((w1.alloc (.map #[] 0)).alloc (.cells #[.string name, .slice none 0 0, .map (some w1.heap.size), .func (.func f) #[] #[]] 94)).heap.size = w1.heap.size + 2 := by simp
  go_loopw [38] (fun s38 wr => ∃ (k : Nat) (v : Value) (us : List RowAt), k ≤ ts.length ∧ s38 = .int .i64 (k : Int) ∧ us.map RowAt.row = (ts.map RowAt.row).take k ∧ KitIn wr w1.heap.size (w1.heap.size + 1) name (.func (.func f) #[] #[]) v us ∧ Below w.heap.size w wr) (fun s38 _ => ts.length - (intOf s38).toNat)
  case atStart =>
    refine ⟨0, .slice none 0 0, [], Nat.zero_le _, rfl, by simp, ⟨?_, ?_, World.ownsRow_nil _ _ _ _, fun k h => absurd h (by simp)⟩, (HB1.out.alloc hs1 _).alloc (by simp; omega) _⟩
    · exact (heap_alloc2 w1 _ _).1
    · exact (heap_alloc2 w1 _ _).2
  case round =>
    obtain ⟨k, v, us, hk, rfl, hus, hkit, hbel⟩ := hrel
    have HU := Lib.hid hus
    have HK := Lib.hid hkit
    have HBL := Lib.hid hbel
    have hul : us.length = k := by have := congrArg List.length hus; simp at this; omega
    have hsz := hbel.size
    clear hus hbel hkit
    by_cases hlt : k < ts.length
    · obtain ⟨b, o, rfl, hbb, hrows⟩ := HA.out h0
      obtain ⟨hcells, hnames⟩ := hrows k hlt
      obtain ⟨hrok, hrname, hrtwice⟩ := HOK.out k hlt
      have HNM0 := Lib.hid hnames
      have HNM := Lib.hid (hnames.below HBL.out)
      have HROK := Lib.hid hrok
      have HRN := Lib.hid hrname
      have HRT := Lib.hid hrtwice
      have hc : ∀ j, j < 6 → wr.cell? ⟨b, o + k * 6 + j, none⟩ = ts[k].cells[j]? := fun j hj => (HBL.out.cell (p := ⟨b, _, none⟩) hbb).trans (hcells j hj)
      have e0 : wr.cell? ⟨b, o + k * 6, none⟩ = some (.string ts[k].row.kind) := hc 0 (by omega)
      have e1 : wr.cell? ⟨b, o + k * 6 + 1, none⟩ = some (.int .i64 ts[k].row.min) := hc 1 (by omega)
      have e2 : wr.cell? ⟨b, o + k * 6 + 2, none⟩ = some (.int .i64 ts[k].row.max) := hc 2 (by omega)
      have e3 : wr.cell? ⟨b, o + k * 6 + 3, none⟩ = some (.bool ts[k].row.num) := hc 3 (by omega)
      have e4 : wr.cell? ⟨b, o + k * 6 + 4, none⟩ = some (.int .i64 ts[k].row.text) := hc 4 (by omega)
      have e5 : wr.cell? ⟨b, o + k * 6 + 5, none⟩ = some (.slice ts[k].at_ ts[k].row.abil.length ts[k].cap) := hc 5 (by omega)
      clear hc hcells hnames hrok hrname hrtwice hrows
      have hmay := Lib.hid (kit_May ts[k].row HROK.out ts[k].at_ ts[k].cap (wr.alloc (.cells #[.string ts[k].row.kind, .int .i64 ts[k].row.min, .int .i64 ts[k].row.max, .bool ts[k].row.num, .int .i64 ts[k].row.text, .slice ts[k].at_ ts[k].row.abil.length ts[k].cap] 81))
        ((HNM.out.below ((Below.refl w.heap.size wr).alloc hsz _)).keep (fun _ _ _ => rfl) (fun b hb => by have : b < w.heap.size := hb; simp; omega)))
      unfold RowD.val at hmay
      go_wp2_with fail
      refine hmay.out.mono ?_
      rintro e w2 ⟨rfl, hb2⟩
      have hs2 := hb2.size
      rw [size_alloc] at hs2
      have hb2' : Below wr.heap.size wr w2 := ((Below.refl _ _).alloc (Nat.le_refl _) _).trans (hb2.mono (by simp))
      have HB2 := Lib.hid hb2'
      have r2 := (hb2.block wr.heap.size (by simp)).trans (heap_alloc_new wr _)
      have R2 := Lib.hid r2
      have c2 : w2.cell? ⟨wr.heap.size, 0, none⟩ = some (.string ts[k].row.kind) := by simp [World.cell?, r2]
      clear hb2 hb2' r2 e0 e1 e2 e3 e4 e5
      have hkd := Lib.hid (sign_Kind ts[k].row.kind w2 HROK.out.size)
      go_wp2_with fail
      refine hkd.out.mono ?_
      rintro e w3 ⟨rfl, hb3⟩
      obtain ⟨n1, n2, hkv⟩ := triple_true _ HROK.out.kind
      have hn1 : n1 = name := by have := HRN.out; rw [hkv] at this; exact this
      subst hn1
      rw [hkv]
      unfold cutT
      have hneq := bytes_same n1
      have hs3 := hb3.size
      have HB3 := Lib.hid (HB2.out.trans (hb3.mono HB2.out.size))
      have HK3 := Lib.hid (HK.out.below HB3.out)
      have R3 := Lib.hid ((hb3.block wr.heap.size (by omega)).trans R2.out)
      have HKV := Lib.hid hkv
      clear hb3 c2 hkv
      have hul3 : (us.map RowAt.row).length = k := by simp [hul]
      have hmiss : ∀ j i, Instr.findNow .string (.string ts[k].row.kind) (entr (us.map RowAt.row) j) i = some none := find_none _ _ (fun r hr => by
        rw [HU.out] at hr
        obtain ⟨m, hm, rfl⟩ := List.getElem_of_mem hr
        rw [List.length_take, List.length_map] at hm
        have := HRT.out m (by omega)
        simpa using this)
      have hlook : ∀ n, (Instr.lookup 91 (.map (some w1.heap.size)) (.string ts[k].row.kind) true).run Tryz.prog (w3.drewN n) = .ok (.tuple #[.int .i64 0, .bool false]) (w3.drewN n) := fun n =>
        run_lookup_miss (T := 91) (K := 9) (E := 3) (by kernel_rfl) (by kernel_rfl) (by kernel_rfl) HK3.out.map (hmiss 0 0)
      have k2 : w3.cell? ⟨w1.heap.size + 1, 2, none⟩ = some (.map (some w1.heap.size)) := by simp [World.cell?, HK3.out.kit]
      have c3 : w3.cell? ⟨wr.heap.size, 0, none⟩ = some (.string ts[k].row.kind) := by simp [World.cell?, R3.out]
      go_wp2
      go_quiet (fail)
      have hb4 : Below w3.heap.size w3 (w3.drewN nq) := below_drewN (Below.refl _ _) _
      have HK4 := Lib.hid (HK3.out.below hb4)
      have HB4 := Lib.hid (HBL.out.trans ((HB3.out.trans (hb4.mono HB3.out.size)).mono hsz))
      have r4 : (w3.drewN nq).heap[wr.heap.size]? = some (.cells #[.string ts[k].row.kind, .int .i64 ts[k].row.min, .int .i64 ts[k].row.max, .bool ts[k].row.num, .int .i64 ts[k].row.text, .slice ts[k].at_ ts[k].row.abil.length ts[k].cap] 81) := R3.out
      have R4 := Lib.hid r4
      have hs4 : (w3.drewN nq).heap.size = w3.heap.size := rfl
      have k4 : (w3.drewN nq).cell? ⟨w1.heap.size + 1, 2, none⟩ = some (.map (some w1.heap.size)) := k2
      have c4 : (w3.drewN nq).cell? ⟨wr.heap.size, 0, none⟩ = some (.string ts[k].row.kind) := c3
      clear hb4 r4 hlook k2 c3
      generalize w3.drewN nq = w4 at *
      go_wp2
      go_still_tail 7, (by kernel_rfl)
      change wpList _ _ _ _ _ w4.drew
      refine wpList_update_new w4.drew rfl 91 9 3 _ _ _ rfl (by kernel_rfl) (by kernel_rfl) (r := w1.heap.size) (entr (us.map RowAt.row) 0).toArray us.length ts[k].row.kind rfl rfl HK4.out.map (hmiss 0 0) ?_
      have hM : w1.heap.size < w4.heap.size := HK4.out.map_lt
      have HK5 := Lib.hid (HK4.out.entry (u := .int .i64 (k : Int)) (by omega) ts[k].row hul)
      have HB5 := Lib.hid (setB_below (r := w1.heap.size) (.map ((entr (us.map RowAt.row) 0).toArray.push ⟨.string ts[k].row.kind, .int .i64 (k : Int), us.length⟩) (us.length + 1)) (HB4.out.drew) hs1)
      have hs5 := setB_size w4.drew w1.heap.size (.map ((entr (us.map RowAt.row) 0).toArray.push ⟨.string ts[k].row.kind, .int .i64 (k : Int), us.length⟩) (us.length + 1))
      have R5 := Lib.hid ((setB_far w4.drew (r := w1.heap.size) (k := wr.heap.size) (.map ((entr (us.map RowAt.row) 0).toArray.push ⟨.string ts[k].row.kind, .int .i64 (k : Int), us.length⟩) (us.length + 1)) (by have := HK.out.map_lt; omega)).trans R4.out)
      have hs5' : w4.drew.heap.size = w4.heap.size := rfl
      generalize hw5 : setB w4.drew w1.heap.size (.map ((entr (us.map RowAt.row) 0).toArray.push ⟨.string ts[k].row.kind, .int .i64 (k : Int), us.length⟩) (us.length + 1)) = w5 at *
      change wpList _ _ _ _ _ (setB w4.drew w1.heap.size (.map ((entr (us.map RowAt.row) 0).toArray.push ⟨.string ts[k].row.kind, .int .i64 (k : Int), us.length⟩) (us.length + 1)))
      rw [hw5]
      clear k4 c4 hw5 hmiss
      have b1 : w5.cell? ⟨w1.heap.size + 1, 1, none⟩ = some v := by simp [World.cell?, HK5.out.kit]
      have hrow : ∀ j, w5.cell? ⟨wr.heap.size, j, none⟩ = (#[.string ts[k].row.kind, .int .i64 ts[k].row.min, .int .i64 ts[k].row.max, .bool ts[k].row.num, .int .i64 ts[k].row.text, .slice ts[k].at_ ts[k].row.abil.length ts[k].cap] : Array Value)[j]? := fun j => by simp [World.cell?, R5.out]
      have a0 := hrow 0
      have a1 := hrow 1
      have a2 := hrow 2
      have a3 := hrow 3
      have a4 := hrow 4
      have a5 := hrow 5
      simp at a0 a1 a2 a3 a4 a5
      have hcp := Lib.hid (kit_copied ts[k].row HROK.out.len.1 HROK.out.len.2 ts[k].at_ ts[k].cap w5.drew ((HNM0.out.below HB5.out.drew).keep (fun _ _ _ => rfl) (fun b hb => Nat.lt_of_lt_of_le hb HB5.out.size)))
      have HK5d := Lib.hid HK5.out.drew
      clear hrow
      obtain ⟨i0, hi, hz0, hz1, hz2⟩ := info_parts info_row
      go_wp2
      go_region_law (first
        | (refine step_append_lies _ rfl _ _ 53 rfl (w1.heap.size + 1 + 1) 81 i0 _ 6 72 Tryz.underlying53 hi hz0 hz1 hz2 rfl (by decide) v us.length _ rfl (own_below (own_below HK5d.out.own HB6.out) ((Below.refl _ _).alloc (Nat.le_refl _) _)) ⟨w6.heap.size, 0, none⟩ 1 1 (RowAt.mk ts[k].row A1 c1).cells rfl rfl (World.news_of_block (heap_alloc_new w6 _)) (cells_one _) (by decide) (by unfold maxLen; omega) (by omega) (by have := HK5d.out.kit_lt; have := HB6.out.size; rw [size_alloc]; omega) _ rfl ?_; intro g cap w7 hown hgrow hat hlt'; have hst := HK5d.out.store HB6.out hgrow; have st1 := hst.1; have st2 := hst.2; have HOW := Lib.hid hown; have HGR := Lib.hid hgrow; have HAT := Lib.hid hat; clear hst hown hgrow hat)
        | (go_simp; refine hcp.out.mono ?_; rintro e w6 ⟨A1, c1, rfl, hA1, hb6⟩; have HA1 := Lib.hid hA1; have HB6 := Lib.hid hb6; have d1 := (hb6.cell (p := ⟨w1.heap.size + 1, 1, none⟩) HK5d.out.kit_lt).trans b1; have d2 : ∀ Y, (w6.alloc Y).cell? ⟨w1.heap.size + 1, 1, none⟩ = some v := fun Y => alloc_cell Y d1; clear hA1 hb6; unfold RowD.val))
      all_goals
        have hfin := HK5d.out.copied (by omega) HB6.out HA1.out HGR.out (by have := HAT.out; rw [size_alloc] at this; exact this) HOW.out
        have HF := Lib.hid hfin
        have hbf := Lib.hid (((((HB5.out.drew).trans (HB6.out.mono HB5.out.size)).alloc (by have := HB6.out.size; have := HB5.out.size; show w.heap.size ≤ w6.heap.size; exact Nat.le_trans HB5.out.size HB6.out.size) _).grown HGR.out (Nat.le_trans (Nat.le_trans HB5.out.size HB6.out.size) (by simp)) (fun g hg => by have := (HK5d.out.own.lt g hg).1; omega)).setCell (p := ⟨w1.heap.size + 1, 1, none⟩) (by show w.heap.size ≤ w1.heap.size + 1; omega) (.slice (some ⟨g, 0, none⟩) (k + 1) cap))
        clear hfin d1 d2 st1 st2 hlt' a0 a1 a2 a3 a4 a5 b1 hs5 hs5' hs4
        rw [hul] at HF
        go_wp2
        go_roundw
        case rel => exact ⟨k + 1, _, us ++ [⟨ts[k].row, _, _⟩], by omega, by go_num, (by rw [List.map_append, HU.out]; simp [List.take_add_one, hlt]), HF.out, hbf.out⟩
        case measure => simp [intOf]; omega
    · obtain rfl : k = ts.length := by omega
      go_wp2
      go_ret2
      exact ⟨w1.heap.size, v, us, hs1, rfl, HK.out, HU.out.trans (List.take_of_length_le (by simp)), HBL.out⟩
end Go.Proofs.YthjpphojddbbmaaGreatDoor

/-
  Rows that a call makes itself, one by one. Conditions: none.
-/
namespace Go.Proofs.YthjpphojddbbmaaGreatDoor
open Go.RowKit
set_option linter.unusedVariables false

/-- Rows that a call owns, with their abilities' names in blocks of their own. -/
structure RowsOwn (w : World) (B : Nat) (v : Value) (ts : List RowAt) : Prop where
  own : w.ownsRow B 81 6 v ts.length (ts.flatMap RowAt.cells)
  names : ∀ k (h : k < ts.length), NamesIn w (fun b => B ≤ b ∧ b < w.heap.size ∧ v.ownBlock ≠ some b) ts[k].row.abil ts[k].at_
theorem RowsOwn.nil (w : World) (B : Nat) : RowsOwn w B (.slice none 0 0) [] := ⟨World.ownsRow_nil _ _ _ _, fun k h => absurd h (by simp)⟩
theorem RowsOwn.below {w w' : World} {B : Nat} {v : Value} {ts : List RowAt} (h : RowsOwn w B v ts) (hb : Below w.heap.size w w') : RowsOwn w' B v ts :=
  ⟨own_below h.own hb, fun k hk => (h.names k hk).keep (fun b o hs => hb.cell (p := ⟨b, o, none⟩) hs.2.1) (fun b hs => ⟨hs.1, Nat.lt_of_lt_of_le hs.2.1 hb.size, hs.2.2⟩)⟩
theorem RowsOwn.step {w5 w6 w7 : World} {B : Nat} {v : Value} {ts : List RowAt} (h : RowsOwn w5 B v ts) (r : RowD) (hB : B ≤ w5.heap.size) {A1 : Option Addr} {c1 g cap : Nat} {Y : Obj}
    (hb6 : Below w5.heap.size w5 w6) (hA1 : NamesIn w6 (fresh w5 w6) r.abil A1) (hgrow : (w6.alloc Y).grownBy w7 v.ownBlock) (hat : v.ownBlock = some g ∨ g = w6.heap.size + 1)
    (hown : w7.ownsRow B 81 6 (.slice (some ⟨g, 0, none⟩) (ts.length + 1) cap) (ts.length + 1) (ts.flatMap RowAt.cells ++ (RowAt.mk r A1 c1).cells)) :
    RowsOwn w7 B (.slice (some ⟨g, 0, none⟩) (ts.length + 1) cap) (ts ++ [⟨r, A1, c1⟩]) := by
  have hs6 := hb6.size
  have hs7 := hgrow.size
  rw [size_alloc] at hs7
  have blk6 : ∀ b, b < w6.heap.size → v.ownBlock ≠ some b → w7.heap[b]? = w6.heap[b]? := fun b hb hne => by
    rw [hgrow.block b (by rw [size_alloc]; omega) (Ne.symm hne), Below.heap_alloc _ _ _ (by omega)]
  have hg : B ≤ g := (hown.lt g rfl).1
  have hvlt : ∀ b, v.ownBlock = some b → b < w5.heap.size := fun b e => (h.own.lt b e).2
  refine ⟨?_, ?_⟩
  · have : (ts ++ [RowAt.mk r A1 c1]).flatMap RowAt.cells = ts.flatMap RowAt.cells ++ (RowAt.mk r A1 c1).cells := by simp
    rw [this, List.length_append]
    exact hown
  · intro k hk
    rw [List.length_append] at hk
    have hlate : ∀ b, b < w6.heap.size → v.ownBlock ≠ some b → ∀ o, w7.cell? ⟨b, o, none⟩ = w6.cell? ⟨b, o, none⟩ := fun b h2 h3 o => World.cell?_of_block (a := ⟨b, o, none⟩) (blk6 b h2 h3)
    by_cases hkt : k < ts.length
    · rw [List.getElem_append_left hkt]
      refine (h.names k hkt).keep (fun b o hs => ?_) (fun b hs => ⟨hs.1, by have := hs.2.1; omega, ?_⟩)
      · rw [hlate b (by have := hs.2.1; omega) hs.2.2]
        exact hb6.cell (p := ⟨b, o, none⟩) hs.2.1
      · rcases hat with e | e
        · have := hs.2.2; rw [e] at this; exact this
        · intro e'; injection e' with e'; have := hs.2.1; have e'' : g = b := e'; omega
    · have hkk : k = ts.length := by simp at hk; omega
      have : (ts ++ [RowAt.mk r A1 c1])[k]'(by simp; omega) = ⟨r, A1, c1⟩ := by subst hkk; simp
      rw [this]
      refine hA1.keep (fun b o hs => ?_) (fun b hs => ⟨by have := hs.1; omega, by have := hs.2; omega, ?_⟩)
      · exact hlate b hs.2 (fun e => by have := hvlt b e; have := hs.1; omega) o
      · intro e'; injection e' with e'
        have e'' : g = b := e'
        have := hs.1; have := hs.2
        rcases hat with e | e
        · have := hvlt g e; omega
        · omega
/-- Names that lie in a new block. -/
theorem names_new (w : World) (l : List ByteArray) (cs : Array Value) (hcs : cs = (l.map Value.string).toArray) : NamesIn (w.alloc (.cells cs 9)) (fresh w (w.alloc (.cells cs 9))) l (some ⟨w.heap.size, 0, none⟩) := fun _ =>
  ⟨w.heap.size, 0, rfl, ⟨Nat.le_refl _, by simp⟩, fun j hj => by
    rw [Nat.zero_add, World.cell?_alloc_new, hcs]; simp [hj]⟩
theorem RowsOwn.lies {w : World} {B : Nat} {v : Value} {ts : List RowAt} (h : RowsOwn w B v ts) : ∃ A c, v = .slice A ts.length c ∧ RowsIn w (fun b => B ≤ b ∧ b < w.heap.size) ts A := by
  rcases h.own.2 with ⟨e, h2⟩ | ⟨g, cap, cur, e, _⟩
  · exact ⟨none, 0, by rw [e, h2], fun h => by omega⟩
  · subst e
    have hlt := h.own.lt g rfl
    refine ⟨_, _, rfl, fun hl => ⟨g, 0, rfl, hlt, fun k hk => ⟨fun j hj => ?_, (h.names k hk).keep (fun _ _ _ => rfl) (fun b hs => ⟨hs.1, hs.2.1⟩)⟩⟩⟩
    rw [Nat.zero_add, h.own.cellAt (k * 6 + j) (by omega), flat_at ts k hk j hj]
/-- A block that is not the row's own, behind a step. -/
theorem step_block {w5 w6 w7 : World} {Y : Obj} {v : Value} {b : Nat} {o : Obj} (hb6 : Below w5.heap.size w5 w6) (hgrow : (w6.alloc Y).grownBy w7 v.ownBlock) (hb : w5.heap[b]? = some o) (hne : v.ownBlock ≠ some b) : w7.heap[b]? = some o := by
  have hs6 := hb6.size
  have := heap_lt hb
  rw [hgrow.block b (by rw [size_alloc]; omega) (Ne.symm hne), Below.heap_alloc _ _ _ (by omega), hb6.block b this, hb]
theorem step_below {w w5 w6 w7 : World} {B : Nat} {Y : Obj} {v : Value} {base n : Nat} {e : TypeId} {size : Nat} {xs : List Value} (h : Below B w w5) (hB : B ≤ w5.heap.size) (hb6 : Below w5.heap.size w5 w6) (hgrow : (w6.alloc Y).grownBy w7 v.ownBlock) (hown : w5.ownsRow base e size v n xs) (hbase : B ≤ base) : Below B w w7 := by
  have hs := hb6.size
  exact ((h.trans (hb6.mono hB)).alloc (Nat.le_trans hB hs) Y).grown hgrow (by rw [size_alloc]; omega) (fun g hg => by have := (hown.lt g hg).1; omega)
end Go.Proofs.YthjpphojddbbmaaGreatDoor

/-
  kit.New on rows that are checked by computing. Conditions: none.
-/
namespace Go.Proofs.YthjpphojddbbmaaGreatDoor
open Go.RowKit
set_option linter.unusedVariables false

def rowB (name : ByteArray) (r : RowD) : Bool :=
  (kindV r.kind).2.2 && ((kindV r.kind).1 == name) && decide (r.kind.size ≤ 1000) && decide (0 ≤ r.min) && decide (r.min ≤ 1023) && (decide (r.max = -1) || (decide (r.min ≤ r.max) && decide (r.max ≤ 1023))) && decide (0 ≤ r.text) && decide (r.text ≤ 4) && (!decide (r.text = 3) || !decide (r.min = 0)) && decide (0 < r.abil.length) && decide (r.abil.length ≤ 1000) && risingF r.abil (-1) && (!Lib.containsS r.abil totalName || Lib.containsS r.abil pureName)
theorem rowB_ok {name : ByteArray} {r : RowD} (h : rowB name r = true) : r.ok ∧ (kindV r.kind).1 = name := by
  simp only [rowB, Bool.and_eq_true, Bool.or_eq_true, Bool.not_eq_true', decide_eq_true_eq, decide_eq_false_iff_not] at h
  obtain ⟨⟨⟨⟨⟨⟨⟨⟨⟨⟨⟨⟨h1, h2⟩, h3⟩, h4⟩, h5⟩, h6⟩, h7⟩, h8⟩, h9⟩, h10⟩, h11⟩, h12⟩, h13⟩ := h
  exact ⟨⟨h1, by omega, h4, h5, h6, h7, h8, fun e => by rcases h9 with h | h; exact absurd e h; exact h, ⟨h10, by omega⟩, h12, fun e => by rcases h13 with h | h; rw [h] at e; cases e; exact h⟩, (MapKept.bytes_beq _ _).mp h2⟩
def apartB : List ByteArray → Bool
  | [] => true
  | a :: l => l.all (fun b => !(a == b)) && apartB l
theorem apart_ne : ∀ (l : List ByteArray), apartB l = true → ∀ (k : Nat) (hk : k < l.length) (m : Nat) (hm : m < k), l[m]'(by omega) ≠ l[k] := by
  intro l
  induction l with
  | nil => intro _ k hk; simp at hk
  | cons a l ih =>
    intro h k hk m hm
    simp only [apartB, Bool.and_eq_true, List.all_eq_true, Bool.not_eq_true'] at h
    cases k with
    | zero => omega
    | succ k =>
      have hk' : k < l.length := by simpa using hk
      cases m with
      | zero =>
        simp only [List.getElem_cons_zero, List.getElem_cons_succ]
        intro e
        have := h.1 _ (List.getElem_mem hk')
        rw [e, bytes_same] at this
        cases this
      | succ m =>
        simp only [List.getElem_cons_succ]
        exact ih h.2 k hk' m (by omega)
def kitB (name : ByteArray) (rs : List RowD) : Bool := wordB name && decide (name.size ≤ 1000) && decide (0 < rs.length) && decide (rs.length ≤ 1000000) && rs.all (rowB name) && apartB (rs.map RowD.kind)
theorem kit_new_of {name : ByteArray} {rs : List RowD} (h : kitB name rs = true) (f : FuncId) (ts : List RowAt) (hts : ts.map RowAt.row = rs) (A : Option Addr) (c : Nat) (w : World) (hA : RowsIn w (· < w.heap.size) ts A) :
    Calls Tryz.prog 36 #[.string name, .slice A ts.length c, .func (.func f) #[] #[]] w (NewPost name (.func (.func f) #[] #[]) rs w) := by
  subst hts
  simp only [kitB, Bool.and_eq_true, decide_eq_true_eq, List.all_eq_true, List.length_map] at h
  obtain ⟨⟨⟨⟨⟨h1, h2⟩, h3⟩, h4⟩, h5⟩, h6⟩ := h
  refine kit_new name f ts A c w h1 (by omega) h3 h4 (fun k hk => ?_) hA
  have hr := rowB_ok (h5 _ (List.mem_map.mpr ⟨_, List.getElem_mem hk, rfl⟩))
  refine ⟨hr.1, hr.2, fun m hm => ?_⟩
  have := apart_ne _ h6 k (by simpa using hk) m hm
  simpa using this
theorem RowsIn.keep {w w' : World} {S S' : Nat → Prop} {ts : List RowAt} {A : Option Addr} (h : RowsIn w S ts A) (hk : ∀ b o, S b → w'.cell? ⟨b, o, none⟩ = w.cell? ⟨b, o, none⟩) (hS : ∀ b, S b → S' b) : RowsIn w' S' ts A := fun hl => by
  obtain ⟨b, o, e, hs, hc⟩ := h hl
  exact ⟨b, o, e, hS b hs, fun k hh => ⟨fun j hj => (hk b _ hs).trans ((hc k hh).1 j hj), (hc k hh).2.keep hk hS⟩⟩
/-- What a kit's maker gives: a kit's place, what its memory is like. -/
def KitPost (name : ByteArray) (f : FuncId) (rs : List RowD) (w : World) (e : Ending) (w' : World) : Prop :=
  ∃ M v ts, w.heap.size ≤ M ∧ e = .returned (.pointer (some ⟨M + 1, 0, none⟩)) ∧ KitIn w' M (M + 1) name (.func (.func f) #[] #[]) v ts ∧ ts.map RowAt.row = rs ∧ Below w.heap.size w w'
end Go.Proofs.YthjpphojddbbmaaGreatDoor

/-
  Kit.Row: a walk. Conditions: the kit lies in memory.
-/
namespace Go.Proofs.YthjpphojddbbmaaGreatDoor
open Go.RowKit
set_option linter.unusedVariables false

theorem results_cell_tmp {P : Program} {fn : Func} {p q : Tmp} {ty : TypeId} (h : fn.results = #[.cell p ty, .tmp q]) {tmps : Array Value} {a : Addr} (ht : tmps.getD p undef = .pointer (some a)) {w : World} {v u : Value} (hl : (loadVar ty a).run P w = .ok v w) (hu : tmps.getD q undef = u) :
    (results fn tmps).run P w = .ok (.tuple #[v, u]) w := by
  unfold results
  simp only [h]
  have ht' : tmps[p]?.getD undef = .pointer (some a) := by simpa using ht
  have hu' : tmps[q]?.getD undef = u := by simpa using hu
  simp [ht', hu', asAddr, hl]

/-- A row that is told: of the call's own making. -/
def RowPost (r : RowD) (w : World) (e : Ending) (w' : World) : Prop := ∃ A c, e = .returned (.tuple #[r.val A c, .bool true]) ∧ NamesIn w' (· < w'.heap.size) r.abil A ∧ Below w.heap.size w w'
set_option maxRecDepth 100000 in
set_option maxHeartbeats 4000000 in
theorem kit_Row {w : World} {M KB : Nat} {name : ByteArray} {m v : Value} {ts : List RowAt} (h : KitIn w M KB name m v ts) (hlen : ts.length ≤ 1000000) (k : Nat) (hk : k < ts.length) (hab : 0 < ts[k].row.abil.length ∧ ts[k].row.abil.length ≤ 140737488351) (hdis : ∀ j (h : j < k), (ts[j]'(by omega)).row.kind ≠ ts[k].row.kind) :
    Calls Tryz.prog 34 #[.pointer (some ⟨KB, 0, none⟩), .string ts[k].row.kind] w (RowPost ts[k].row w) := by
  have hKB := h.kit_lt
  have hc1 : w.cell? ⟨KB, 1, none⟩ = some v := by simp [World.cell?, h.kit]
  have hc2 : w.cell? ⟨KB, 2, none⟩ = some (.map (some M)) := by simp [World.cell?, h.kit]
  have hfs := find_some (ts.map RowAt.row) ts[k].row.kind k (by simpa using hk) (by simp) (fun j hj => by simpa using hdis j hj) 0 0
  rw [Nat.zero_add] at hfs
  obtain ⟨A0, c0, hv, hlies⟩ : ∃ A c, v = .slice A ts.length c ∧ RowsIn w (· < w.heap.size) ts A := by
    obtain ⟨A, c, e, hl⟩ := (RowsOwn.mk h.own h.names).lies
    exact ⟨A, c, e, hl.keep (fun _ _ _ => rfl) (fun b hb => hb.2)⟩
  subst hv
  obtain ⟨b, o, rfl, hbb, hrows⟩ := hlies (by omega)
  obtain ⟨hcells, hnames⟩ := hrows k hk
  have hbx : Hid (Below w.heap.size w (w.alloc (.cells #[.string ⟨#[]⟩, .int .i64 0, .int .i64 0, .bool false, .int .i64 0, .slice none 0 0] 81))) := (Below.refl _ _).alloc (Nat.le_refl _) _
  generalize hw1 : w.alloc (.cells #[.string ⟨#[]⟩, .int .i64 0, .int .i64 0, .bool false, .int .i64 0, .slice none 0 0] 81) = w1 at hbx
  have hlook : (Instr.lookup 91 (.map (some M)) (.string ts[k].row.kind) true).run Tryz.prog w1 = .ok (.tuple #[.int .i64 (k : Int), .bool true]) w1 :=
    run_lookup_hit (T := 91) (K := 9) (E := 3) (by kernel_rfl) (by kernel_rfl) ((hbx.out.block _ h.map_lt).trans h.map) (by have := hfs; simpa using this)
  have hc : ∀ j, j < 6 → w.cell? ⟨b, o + k * 6 + j, none⟩ = ts[k].cells[j]? := hcells
  have e0 : w.cell? ⟨b, o + k * 6, none⟩ = some (.string ts[k].row.kind) := hc 0 (by omega)
  have e1 : w.cell? ⟨b, o + k * 6 + 1, none⟩ = some (.int .i64 ts[k].row.min) := hc 1 (by omega)
  have e2 : w.cell? ⟨b, o + k * 6 + 2, none⟩ = some (.int .i64 ts[k].row.max) := hc 2 (by omega)
  have e3 : w.cell? ⟨b, o + k * 6 + 3, none⟩ = some (.bool ts[k].row.num) := hc 3 (by omega)
  have e4 : w.cell? ⟨b, o + k * 6 + 4, none⟩ = some (.int .i64 ts[k].row.text) := hc 4 (by omega)
  have e5 : w.cell? ⟨b, o + k * 6 + 5, none⟩ = some (.slice ts[k].at_ ts[k].row.abil.length ts[k].cap) := hc 5 (by omega)
  have hs1 := hbx.out.size
  have hcp := Lib.hid (kit_copied ts[k].row hab.1 hab.2 ts[k].at_ ts[k].cap w1 ((hnames.below hbx.out).keep (fun _ _ _ => rfl) (fun b hb => Nat.lt_of_lt_of_le hb hs1)))
  have hw1' := Lib.hid hw1
  subst hw1
  clear hc hcells hnames hrows hfs hlies hdis
  have hkn := Lib.hid h
  clear h
  go_enter Tryz.func34, Tryz.ntmps34
  go_wp2_with fail
  unfold RowD.val at hcp
  refine hcp.out.mono ?_
  rintro e w2 ⟨A1, c1, rfl, hA1, hb2⟩
  have hb1 := hb2.block w.heap.size (by simp)
  have b1 := hb1.trans (heap_alloc_new w _)
  have f0 : ∀ j, w2.cell? ⟨w.heap.size, j, none⟩ = (#[.string ⟨#[]⟩, .int .i64 0, .int .i64 0, .bool false, .int .i64 0, .slice none 0 0] : Array Value)[j]? := fun j => by simp [World.cell?, b1]
  have g1 : ∀ j, w2.frozen? ⟨w.heap.size, j, none⟩ = false := fun j => by simp [World.frozen?, b1]
  have B1 := Lib.hid b1
  have HA1 := Lib.hid hA1
  have HB2 := Lib.hid (hbx.out.trans (hb2.mono (by simp)))
  have hs2 := hb2.size
  rw [size_alloc] at hs2
  have hbig : ∀ b, fresh (w.alloc (.cells #[.string ⟨#[]⟩, .int .i64 0, .int .i64 0, .bool false, .int .i64 0, .slice none 0 0] 81)) w2 b → b ≠ w.heap.size ∧ b < w2.heap.size := fun b hb => ⟨by have := hb.1; rw [size_alloc] at this; omega, hb.2⟩
  have HG := Lib.hid hbig
  clear hb1 b1 hA1 hb2 hbig hlook
  unfold RowD.val
  go_wp2
  have hres := run_loadVar_row (P := Tryz.prog) _ _ _ 81 _ _ _ (blk_set (blk_set (blk_set (blk_set (blk_set (blk_set B1.out 0 (.string ts[k].row.kind)) 1 (.int .i64 ts[k].row.min)) 2 (.int .i64 ts[k].row.max)) 3 (.bool ts[k].row.num)) 4 (.int .i64 ts[k].row.text)) 5 (.slice A1 ts[k].row.abil.length c1)) Tryz.underlying81 rfl (by kernel_rfl)
  refine bodyPost_ret (fn := Tryz.f34) (v := .tuple #[ts[k].row.val A1 c1, .bool true]) ?_ ?_ ?_
  · refine results_cell_tmp (p := 4) (q := 5) (ty := 81) (a := ⟨w.heap.size, 0, none⟩) Tryz.results34 ?_ ?_ ?_
    · rfl
    · exact hres
    · rfl
  · rfl
  have hsz : ((((((w2.setCell ⟨w.heap.size, 0, none⟩ (.string ts[k].row.kind)).setCell ⟨w.heap.size, 1, none⟩ (.int .i64 ts[k].row.min)).setCell ⟨w.heap.size, 2, none⟩ (.int .i64 ts[k].row.max)).setCell ⟨w.heap.size, 3, none⟩ (.bool ts[k].row.num)).setCell ⟨w.heap.size, 4, none⟩ (.int .i64 ts[k].row.text)).setCell ⟨w.heap.size, 5, none⟩ (.slice A1 ts[k].row.abil.length c1)).heap.size = w2.heap.size := by
    rw [size_set, size_set, size_set, size_set, size_set, size_set]
  refine ⟨A1, c1, rfl, HA1.out.keep (fun b o hb => ?_) (fun b hb => by rw [hsz]; exact (HG.out b hb).2), ?_⟩
  · have n1 := (HG.out b hb).1
    rw [cell_far _ _ (p := ⟨w.heap.size, 5, none⟩) n1, cell_far _ _ (p := ⟨w.heap.size, 4, none⟩) n1, cell_far _ _ (p := ⟨w.heap.size, 3, none⟩) n1, cell_far _ _ (p := ⟨w.heap.size, 2, none⟩) n1, cell_far _ _ (p := ⟨w.heap.size, 1, none⟩) n1, cell_far _ _ (p := ⟨w.heap.size, 0, none⟩) n1]
  · exact ((((((HB2.out.setCell (p := ⟨w.heap.size, 0, none⟩) (Nat.le_refl _) _).setCell (p := ⟨w.heap.size, 1, none⟩) (Nat.le_refl _) _).setCell (p := ⟨w.heap.size, 2, none⟩) (Nat.le_refl _) _).setCell (p := ⟨w.heap.size, 3, none⟩) (Nat.le_refl _) _).setCell (p := ⟨w.heap.size, 4, none⟩) (Nat.le_refl _) _).setCell (p := ⟨w.heap.size, 5, none⟩) (Nat.le_refl _) _)
end Go.Proofs.YthjpphojddbbmaaGreatDoor
