/-
  words.Kit: a walk. Conditions: none.
-/
import Derived.Test.YthjpphojddbbmaaGreatDoorCWordsTab
import Derived.Test.YthjpphojddbbmaaGreatDoorCKitNew
import Derived.Laws.EntriesVeiled
namespace Go.Proofs.YthjpphojddbbmaaGreatDoor
open Go.RowKit
set_option linter.unusedVariables false

section
variable {P : Program}
theorem wk_look_hit {T K E : TypeId} (hT : P.underlying T = some (.map K E)) (hK : P.underlying K = some .string) {r : Nat} {es : Array MapEntry} {c : Nat} {s : ByteArray} {i : Nat} {v : Value} {w : World}
    (hb : w.heap[r]? = some (.map es c)) (hf : Instr.findNow .string (.string s) es.toList 0 = some (some (i, v))) :
    (Instr.lookup T (.map (some r)) (.string s) false).run P w = .ok v w := by
  unfold Instr.lookup
  simp [Sem.run_bind, run_underlying hT, Result.andThen_ok, get_map hb, run_check_str hK, find_str hK hf]
end
def nWords : ByteArray := ⟨#[119, 111, 114, 100, 115, 46]⟩
def sStrict : ByteArray := ⟨#[83, 116, 114, 105, 99, 116]⟩
def sPure : ByteArray := ⟨#[80, 117, 114, 101]⟩
def sSorted : ByteArray := ⟨#[83, 111, 114, 116, 101, 100]⟩
def sTotal : ByteArray := ⟨#[84, 111, 116, 97, 108]⟩
def sSugar : ByteArray := ⟨#[83, 117, 103, 97, 114]⟩
def wDat : List (ByteArray × ByteArray × Bool) := [(⟨#[106, 111, 105, 110]⟩, wi_join, false), (⟨#[115, 105, 122, 101]⟩, wi_size, true), (⟨#[99, 117, 116]⟩, wi_cut, false), (⟨#[102, 105, 110, 100]⟩, wi_find, true), (⟨#[114, 101, 112]⟩, wi_rep, false), (⟨#[108, 101, 115, 115]⟩, wi_less, true), (⟨#[111, 102]⟩, wi_of, true), (⟨#[110, 117, 109]⟩, wi_num, false)]
def rowW (d : ByteArray × ByteArray × Bool) : RowD := ⟨nWords ++ d.1, d.2.1.size, d.2.1.size, false, 0, if d.2.2 = true then [sStrict, sPure, sTotal, sSorted] else [sStrict, sPure, sSorted]⟩
def rowWAll : RowD := ⟨⟨#[119, 111, 114, 100, 115, 46, 97, 108, 108]⟩, 0, -1, false, 0, [sPure, sSorted, sSugar]⟩
def wordsRows : List RowD := wDat.map rowW ++ [rowWAll]
theorem words_kitB : kitB ⟨#[119, 111, 114, 100, 115]⟩ wordsRows = true := by kernel_rfl
theorem wDat_found : ∀ d ∈ wDat, (∃ i out f, Instr.findNow .string (.string (nWords ++ d.1)) wTab.toList 0 = some (some (i, opVal d.2.1 out d.2.2 f))) ∧ d.1.size ≤ 10 ∧ d.2.1.size ≤ 3 := by
  intro d hd
  simp only [wDat, List.mem_cons, List.not_mem_nil, or_false] at hd
  rcases hd with rfl | rfl | rfl | rfl | rfl | rfl | rfl | rfl
  · exact ⟨⟨0, _, _, wf_join⟩, by decide, by decide⟩
  · exact ⟨⟨1, _, _, wf_size⟩, by decide, by decide⟩
  · exact ⟨⟨2, _, _, wf_cut⟩, by decide, by decide⟩
  · exact ⟨⟨3, _, _, wf_find⟩, by decide, by decide⟩
  · exact ⟨⟨4, _, _, wf_rep⟩, by decide, by decide⟩
  · exact ⟨⟨5, _, _, wf_less⟩, by decide, by decide⟩
  · exact ⟨⟨6, _, _, wf_of⟩, by decide, by decide⟩
  · exact ⟨⟨7, _, _, wf_num⟩, by decide, by decide⟩
theorem wk_alloc3 (w : World) (o1 o2 o3 : Obj) : (((w.alloc o1).alloc o2).alloc o3).heap[w.heap.size + 2]? = some o3 ∧ (((w.alloc o1).alloc o2).alloc o3).heap[w.heap.size + 1]? = some o2 := by
  refine ⟨?_, ?_⟩
  · have := heap_alloc_new ((w.alloc o1).alloc o2) o3
    rwa [size_alloc, size_alloc] at this
  · rw [Below.heap_alloc _ _ _ (by simp)]; exact (heap_alloc2 w o1 o2).2
theorem wk_alloc4 (w : World) (o1 o2 o3 o4 : Obj) : ((((w.alloc o1).alloc o2).alloc o3).alloc o4).heap[w.heap.size + 2]? = some o3 ∧ ((((w.alloc o1).alloc o2).alloc o3).alloc o4).heap[w.heap.size + 3]? = some o4 := by
  refine ⟨?_, ?_⟩
  · rw [Below.heap_alloc _ _ _ (by simp)]; exact (wk_alloc3 w o1 o2 o3).1
  · have := heap_alloc_new (((w.alloc o1).alloc o2).alloc o3) o4
    rwa [size_alloc, size_alloc, size_alloc] at this
theorem wk_new {w : World} {o : Obj} {n : Nat} (h : w.heap.size = n) : (w.alloc o).heap[n]? = some o := h ▸ heap_alloc_new w o
theorem names_lie {wr W : World} {b : Nat} {l : List ByteArray} {cs : Array Value} {T : TypeId} (h : W.heap[b]? = some (.cells cs T)) (hcs : cs = (l.map Value.string).toArray) (h1 : wr.heap.size ≤ b) : NamesIn W (fresh wr W) l (some ⟨b, 0, none⟩) := fun _ =>
  ⟨b, 0, rfl, ⟨h1, lt_of_block h⟩, fun j hj => by
    rw [Nat.zero_add]
    have : W.cell? ⟨b, j, none⟩ = cs[j]? := by simp [World.cell?, h]
    rw [this, hcs]; simp [hj]⟩
/-- What a round has laid ahead of its append. -/
def LaidRow (wr : World) (r : RowD) (A : Option Addr) (c : Nat) (W : World) : Prop := Below wr.heap.size wr W ∧ W.heap[wr.heap.size + 2]? = some (.cells (RowAt.mk r A c).cells.toArray 81) ∧ NamesIn W (fresh wr W) r.abil A
theorem laid_plain (wr : World) (O : Obj) (d : ByteArray × ByteArray × Bool) (hd : d.2.2 = false) :
    LaidRow wr (rowW d) (some ⟨wr.heap.size + 1, 0, none⟩) 3 (((wr.alloc O).alloc (.cells #[.string sStrict, .string sPure, .string sSorted] 9)).alloc (.cells #[.string (nWords ++ d.1), .int .i64 d.2.1.size, .int .i64 d.2.1.size, .bool false, .int .i64 0, .slice (some ⟨wr.heap.size + 1, 0, none⟩) 3 3] 81)) := by
  have h3 := wk_alloc3 wr O (.cells #[.string sStrict, .string sPure, .string sSorted] 9) (.cells #[.string (nWords ++ d.1), .int .i64 d.2.1.size, .int .i64 d.2.1.size, .bool false, .int .i64 0, .slice (some ⟨wr.heap.size + 1, 0, none⟩) 3 3] 81)
  have ha : (rowW d).abil = [sStrict, sPure, sSorted] := by unfold rowW; rw [hd]; rfl
  refine ⟨(((Below.refl _ _).alloc (Nat.le_refl _) _).alloc (by simp) _).alloc (by simp; omega) _, ?_, ?_⟩
  · rw [h3.1]
    simp only [RowAt.cells, ha]
    rfl
  · rw [ha]; exact names_lie h3.2 rfl (by omega)
theorem laid_sure (wr : World) (O N : Obj) (d : ByteArray × ByteArray × Bool) (hd : d.2.2 = true) :
    LaidRow wr (rowW d) (some ⟨wr.heap.size + 3, 0, none⟩) 4 ((((wr.alloc O).alloc N).alloc (.cells #[.string (nWords ++ d.1), .int .i64 d.2.1.size, .int .i64 d.2.1.size, .bool false, .int .i64 0, .slice (some ⟨wr.heap.size + 3, 0, none⟩) 4 4] 81)).alloc (.cells #[.string sStrict, .string sPure, .string sTotal, .string sSorted] 9)) := by
  have h4 := wk_alloc4 wr O N (.cells #[.string (nWords ++ d.1), .int .i64 d.2.1.size, .int .i64 d.2.1.size, .bool false, .int .i64 0, .slice (some ⟨wr.heap.size + 3, 0, none⟩) 4 4] 81) (.cells #[.string sStrict, .string sPure, .string sTotal, .string sSorted] 9)
  have ha : (rowW d).abil = [sStrict, sPure, sTotal, sSorted] := by unfold rowW; rw [hd]; rfl
  refine ⟨((((Below.refl _ _).alloc (Nat.le_refl _) _).alloc (by simp) _).alloc (by simp; omega) _).alloc (by simp; omega) _, ?_, ?_⟩
  · rw [h4.1]
    simp only [RowAt.cells, ha]
    rfl
  · rw [ha]; exact names_lie h4.2 rfl (by omega)
theorem take_roww {k : Nat} (h : k < wDat.length) {us : List RowAt} {A : Option Addr} {c : Nat} (hus : us.map RowAt.row = (wDat.take k).map rowW) : (us ++ [(⟨rowW wDat[k], A, c⟩ : RowAt)]).map RowAt.row = (wDat.take (k + 1)).map rowW := by
  rw [List.map_append, hus, List.take_succ_eq_append_getElem h, List.map_append]; rfl
theorem wdat_names {k : Nat} (h : k < wDat.length) : ((wDat.map fun d => Value.string d.1).toArray)[k]? = some (.string wDat[k].1) := by simp [h]
set_option maxRecDepth 100000 in
set_option maxHeartbeats 8000000 in
theorem words_Kit (w : World) : Calls Tryz.prog 19 #[] w (KitPost ⟨#[119, 111, 114, 100, 115]⟩ 37 wordsRows w) := by
  obtain ⟨i0, hi, hz0, hz1, hz2⟩ := info_parts info_row
  go_enter Tryz.func19, Tryz.ntmps19
  go_wp2_with fail
  refine (w_operations w).mono ?_
  rintro e w' ⟨rfl, rfl⟩
  go_wp2
  have hl8 : wDat.length = 8 := rfl
  go_loopw [1, 12] (fun s1 s12 wx => ∃ (k : Nat) (us : List RowAt), k ≤ 8 ∧ s12 = .int .i64 (k : Int) ∧ us.map RowAt.row = (wDat.take k).map rowW ∧ RowsOwn wx (w.heap.size + 2) s1 us ∧ wx.heap[w.heap.size]? = some (.map wTab 8) ∧ wx.heap[w.heap.size + 1]? = some (.cells (wDat.map fun d => Value.string d.1).toArray 9) ∧ Below w.heap.size w wx) (fun _ s12 _ => 8 - (intOf s12).toNat)
  case atStart => exact ⟨0, [], by omega, rfl, rfl, RowsOwn.nil _ _, (heap_alloc2 w _ _).1, (heap_alloc2 w _ _).2, ((Below.refl _ _).alloc (Nat.le_refl _) _).alloc (by simp) _⟩
  case round =>
    obtain ⟨k, us, hk, rfl, hus, hrow, hmb, hnb, hbel⟩ := hrel
    have hul : us.length = k := by have := congrArg List.length hus; simp [hl8] at this; omega
    have HU := Lib.hid hus
    have HR := Lib.hid hrow
    have HB := Lib.hid hbel
    have HM := Lib.hid hmb
    have HN := Lib.hid hnb
    have hsz : w.heap.size + 1 < wr.heap.size := lt_of_block hnb
    have hsz2 : w.heap.size + 2 ≤ wr.heap.size := by omega
    clear hus hrow hbel hmb hnb
    by_cases hlt : k < 8
    · have hlt8 : k < wDat.length := hlt
      have e0 : wr.cell? ⟨w.heap.size + 1, k, none⟩ = some (.string wDat[k].1) := by
        simp only [World.cell?, HN.out]
        exact wdat_names hlt8
      obtain ⟨⟨i, out, f, hf⟩, hs1, hs2⟩ := wDat_found wDat[k] (List.getElem_mem hlt8)
      have HU3 := Lib.hid (fun A c => take_roww (A := A) (c := c) hlt8 HU.out)
      have hlk := wk_look_hit (P := Tryz.prog) (T := 63) (K := 9) (E := 61) (w := wr) Tryz.underlying63 Tryz.underlying9 HM.out hf
      unfold opVal nWords at hlk
      generalize wDat[k] = d at *
      have HUL := Lib.hid hul
      have hok : us.length ≤ 8 := by omega
      clear hf hul
      cases hq : d.2.2
      · rw [hq] at hlk
        have HL := Lib.hid (fun O => laid_plain wr O d hq)
        have hab := Lib.hid (show (rowW d).abil.length = 3 by unfold rowW; rw [hq]; rfl)
        unfold nWords sStrict sPure sSorted at HL
        go_upto_region 10 with fail
        refine gen (LaidRow wr (rowW d) (some ⟨wr.heap.size + 1, 0, none⟩) 3) (HL.out _) ?_
        rintro w6 hw6
        have HW := Lib.hid hw6
        have hrc : ∀ j, w6.cell? ⟨wr.heap.size + 1 + 1, j, none⟩ = (#[.string (nWords ++ d.1), .int .i64 d.2.1.size, .int .i64 d.2.1.size, .bool false, .int .i64 0, .slice (some ⟨wr.heap.size + 1, 0, none⟩) 3 3] : Array Value)[j]? := fun j => by
          have h := hw6.2.1
          simp only [RowAt.cells, hab.out] at h
          show w6.cell? ⟨wr.heap.size + 2, j, none⟩ = _
          simp [World.cell?, h, rowW]
        have hcl : Hid ((RowAt.mk (rowW d) (some ⟨wr.heap.size + 1, 0, none⟩) 3).cells = [.string (nWords ++ d.1), .int .i64 d.2.1.size, .int .i64 d.2.1.size, .bool false, .int .i64 0, .slice (some ⟨wr.heap.size + 1, 0, none⟩) 3 3]) := Lib.hid (by simp only [RowAt.cells, hab.out]; rfl)
        have hown6 := Lib.hid ((own_below HR.out.own hw6.1).alloc (.cells #[.string (nWords ++ d.1), .int .i64 d.2.1.size, .int .i64 d.2.1.size, .bool false, .int .i64 0, .slice (some ⟨wr.heap.size + 1, 0, none⟩) 3 3] 81))
        have hz6 := hw6.1.size
        clear hw6 e0 hlk HL
        go_wp2_with (at_builtin; refine wpList_append_lies _ rfl _ _ 53 rfl (w.heap.size + 2) 81 i0 _ 6 72 Tryz.underlying53 hi hz0 hz1 hz2 rfl (by decide) u1 us.length _ rfl (hown6.out) ⟨w6.heap.size, 0, none⟩ 1 1 [.string (nWords ++ d.1), .int .i64 d.2.1.size, .int .i64 d.2.1.size, .bool false, .int .i64 0, .slice (some ⟨wr.heap.size + 1, 0, none⟩) 3 3] rfl rfl (World.news_of_block (by exact heap_alloc_new w6 _)) (by rw [← hcl.out]; exact cells_one _) (by decide) (by unfold maxLen; omega) (by omega) (by simp; omega) (w6.heap.size + 1) (by simp) ?_)
        intro g cap w7 hown hgrow hat hlt7
        rw [← hcl.out] at hown
        have hst := HR.out.step (rowW d) hsz2 HW.out.1 HW.out.2.2 hgrow hat hown
        have H1 := Lib.hid hst
        have H2 := Lib.hid (step_block HW.out.1 hgrow HM.out (fun e => by have := (HR.out.own.lt _ e).1; omega))
        have H3 := Lib.hid (step_block HW.out.1 hgrow HN.out (fun e => by have := (HR.out.own.lt _ e).1; omega))
        have H4 := Lib.hid (step_below HB.out (by omega) HW.out.1 hgrow HR.out.own (by omega))
        clear hst hown hgrow hat hrc hown6
        go_wp2
        go_roundw
        case rel => exact ⟨k + 1, _, by omega, by go_num, HU3.out _ _, by have h := H1.out; exact h, H2.out, H3.out, H4.out⟩
        case measure => simp [intOf]; omega
      · rw [hq] at hlk
        have HL := Lib.hid (fun O N => laid_sure wr O N d hq)
        have hab := Lib.hid (show (rowW d).abil.length = 4 by unfold rowW; rw [hq]; rfl)
        unfold nWords sStrict sPure sSorted sTotal at HL
        go_upto_region 10 with fail
        refine gen (LaidRow wr (rowW d) (some ⟨wr.heap.size + 3, 0, none⟩) 4) (HL.out _ _) ?_
        rintro w6 hw6
        have HW := Lib.hid hw6
        have hrc : ∀ j, w6.cell? ⟨wr.heap.size + 1 + 1, j, none⟩ = (#[.string (nWords ++ d.1), .int .i64 d.2.1.size, .int .i64 d.2.1.size, .bool false, .int .i64 0, .slice (some ⟨wr.heap.size + 3, 0, none⟩) 4 4] : Array Value)[j]? := fun j => by
          have h := hw6.2.1
          simp only [RowAt.cells, hab.out] at h
          show w6.cell? ⟨wr.heap.size + 2, j, none⟩ = _
          simp [World.cell?, h, rowW]
        have hcl : Hid ((RowAt.mk (rowW d) (some ⟨wr.heap.size + 3, 0, none⟩) 4).cells = [.string (nWords ++ d.1), .int .i64 d.2.1.size, .int .i64 d.2.1.size, .bool false, .int .i64 0, .slice (some ⟨wr.heap.size + 3, 0, none⟩) 4 4]) := Lib.hid (by simp only [RowAt.cells, hab.out]; rfl)
        have hown6 := Lib.hid ((own_below HR.out.own hw6.1).alloc (.cells #[.string (nWords ++ d.1), .int .i64 d.2.1.size, .int .i64 d.2.1.size, .bool false, .int .i64 0, .slice (some ⟨wr.heap.size + 3, 0, none⟩) 4 4] 81))
        have hz6 := hw6.1.size
        clear hw6 e0 hlk HL
        go_wp2_with (at_builtin; refine wpList_append_lies _ rfl _ _ 53 rfl (w.heap.size + 2) 81 i0 _ 6 72 Tryz.underlying53 hi hz0 hz1 hz2 rfl (by decide) u1 us.length _ rfl (hown6.out) ⟨w6.heap.size, 0, none⟩ 1 1 [.string (nWords ++ d.1), .int .i64 d.2.1.size, .int .i64 d.2.1.size, .bool false, .int .i64 0, .slice (some ⟨wr.heap.size + 3, 0, none⟩) 4 4] rfl rfl (World.news_of_block (by exact heap_alloc_new w6 _)) (by rw [← hcl.out]; exact cells_one _) (by decide) (by unfold maxLen; omega) (by omega) (by simp; omega) (w6.heap.size + 1) (by simp) ?_)
        intro g cap w7 hown hgrow hat hlt7
        rw [← hcl.out] at hown
        have hst := HR.out.step (rowW d) hsz2 HW.out.1 HW.out.2.2 hgrow hat hown
        have H1 := Lib.hid hst
        have H2 := Lib.hid (step_block HW.out.1 hgrow HM.out (fun e => by have := (HR.out.own.lt _ e).1; omega))
        have H3 := Lib.hid (step_block HW.out.1 hgrow HN.out (fun e => by have := (HR.out.own.lt _ e).1; omega))
        have H4 := Lib.hid (step_below HB.out (by omega) HW.out.1 hgrow HR.out.own (by omega))
        clear hst hown hgrow hat hrc hown6
        go_wp2
        go_roundw
        case rel => exact ⟨k + 1, _, by omega, by go_num, HU3.out _ _, by have h := H1.out; exact h, H2.out, H3.out, H4.out⟩
        case measure => simp [intOf]; omega
    · have HK8 : Hid (k = 8) := (by omega : k = 8)
      have HA : Hid (us.map RowAt.row = wDat.map rowW) := by have h := HU.out; rw [HK8.out] at h; exact h
      have hok : us.length ≤ 8 := by omega
      have HUL := Lib.hid hul
      have hn3 := names_new wr [sPure, sSorted, sSugar] _ rfl
      clear hul
      go_wp2_with (at_builtin; refine wpList_append_lies _ rfl _ _ 53 rfl (w.heap.size + 2) 81 i0 _ 6 72 Tryz.underlying53 hi hz0 hz1 hz2 rfl (by decide) u1 us.length _ rfl (own_below HR.out.own (((Below.refl _ _).alloc (Nat.le_refl _) _).alloc (by simp) _)) ⟨wr.heap.size + 1, 0, none⟩ 1 1 (RowAt.mk rowWAll (some ⟨wr.heap.size, 0, none⟩) 3).cells rfl rfl (World.news_of_block (by exact (heap_alloc2 wr _ _).2)) (cells_one _) (by decide) (by unfold maxLen; omega) (by omega) (by simp; omega) (wr.heap.size + 2) (by simp) ?_)
      intro g cap w7 hown hgrow hat hlt7
      have hb2 : Below wr.heap.size wr (wr.alloc (.cells ([sPure, sSorted, sSugar].map Value.string).toArray 9)) := (Below.refl _ _).alloc (Nat.le_refl _) _
      have hst := HR.out.step rowWAll hsz2 hb2 hn3 hgrow (by simpa using hat) hown
      have HB7 := Lib.hid (step_below HB.out (by omega) hb2 hgrow HR.out.own (by omega))
      have HT : Hid ((us ++ [RowAt.mk rowWAll (some ⟨wr.heap.size, 0, none⟩) 3]).map RowAt.row = wordsRows) := by show _ = _; rw [List.map_append, HA.out]; rfl
      obtain ⟨A2, c2, hv2, hA⟩ := hst.lies
      have hlen9 : (us ++ [RowAt.mk rowWAll (some ⟨wr.heap.size, 0, none⟩) 3]).length = us.length + 1 := by simp
      rw [hlen9] at hv2
      injection hv2 with q1 q2 q3
      subst q1 q3
      have KN := Lib.hid (kit_new_of words_kitB 37 _ HT.out (some ⟨g, 0, none⟩) cap w7 (hA.keep (fun _ _ _ => rfl) (fun b hb => hb.2)))
      rw [hlen9] at KN
      clear hst hb2 hn3 hown hgrow hat hA q2 hlen9
      go_wp2_with fail
      refine KN.out.mono ?_
      rintro e w8 ⟨M, v, ts, hM, rfl, hK, hu, hb8⟩
      have H1 := Lib.hid hK
      have H2 := Lib.hid hu
      have H3 := Lib.hid (HB7.out.trans (hb8.mono HB7.out.size))
      have H4 := Lib.hid (Nat.le_trans HB7.out.size hM)
      clear hM hK hu hb8
      go_wp2
      go_ret
      exact ⟨M, v, ts, H4.out, rfl, H1.out, H2.out, H3.out⟩
end Go.Proofs.YthjpphojddbbmaaGreatDoor
