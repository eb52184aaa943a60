/-
  Texts of a proof in one: LawLight11, LawWorks11, LawOps11. Conditions: each names its own.
-/
import Derived.Test.YtcldbjgikkfnbaaGreatDoorCPlFits
import Derived.Deep.CutRange
import Derived.BigQuiet
import Derived.Test.YtcldbjgikkfnbaaGreatDoorCRefGood11c
import Derived.Test.YtcldbjgikkfnbaaGreatDoorCLaw11Begun
/-
  espalierlaw11.light: a walk. Printed by a program of mine (gen_works.py). Conditions: the values lie in memory.
-/
namespace Go.Proofs.YtcldbjgikkfnbaaGreatDoor
open Go.RowKit
set_option linter.unusedVariables false

def LightPost11 (ps : List Pl) (w : World) (e : Ending) (w' : World) : Prop := ∃ q, e = .returned (.bool q) ∧ (q = true → ps.length ≤ 2000 ∧ ∀ p ∈ ps, p.isLight = true) ∧ Below w.heap.size w w'
set_option maxRecDepth 100000 in
set_option maxHeartbeats 4000000 in
theorem law11_light (ps : List Pl) (A : Option Addr) (c : Nat) (w : World) (hlen : ps.length * 56 ≤ 140737488351232) (hl : Pls.lies w w.heap.size ps A) :
    Calls Tryz.prog 11 #[.slice A ps.length c] w (LightPost11 ps w) := by
  have HL := Lib.hid hl
  clear hl
  go_enter Tryz.func11, Tryz.ntmps11
  go_wp2
  go_loopw [3, 4] (fun s3 s4 wr => ∃ (k : Nat), k ≤ ps.length ∧ s3 = .int .i64 (k : Int) ∧ s4 = .int .i64 (k : Int) ∧ k ≤ 2000 ∧ (∀ p ∈ ps.take k, p.isLight = true) ∧ Below w.heap.size w wr) (fun _ s4 _ => ps.length - (intOf s4).toNat)
  case atStart => exact ⟨0, Nat.zero_le _, rfl, rfl, by omega, by simp, Below.refl _ _⟩
  case round =>
    obtain ⟨k, hk, rfl, rfl, hk2, hlt1, hbel⟩ := hrel
    have HT := Lib.hid hlt1
    have HB := Lib.hid hbel
    have hws : w.heap.size ≤ wr.heap.size := hbel.size
    clear hlt1 hbel
    by_cases hlt : k < ps.length
    · obtain ⟨b', o', rfl⟩ := HL.out.head (by omega)
      have hlies := (HL.out.below HB.out (by omega : w.heap.size ≤ wr.heap.size)).at_ k hlt
      have hsn := Lib.hid hlies.sane
      obtain ⟨hbb, e0, e1, e2, hlen2, A', c', e3, hll⟩ := hlies.parts
      have KL := Lib.hid (law2_Light ps[k] A' c' wr hsn.out.2.2.1 hsn.out.2.2.2 (hll.below (Below.refl _ _) (Nat.le_refl _)))
      have HT3 := Lib.hid (fun (h : ps[k].isLight = true) => show ∀ p ∈ ps.take (k + 1), p.isLight = true by
        rw [List.take_succ_eq_append_getElem hlt]
        intro p hp
        rcases List.mem_append.1 hp with h1 | h1
        · exact HT.out p h1
        · rw [List.mem_singleton.1 h1]; exact h)
      generalize hp : ps[k] = p at *
      clear hlies hp hll
      unfold Pl.arg at KL
      cases hi : p.isLight
      · rw [hi] at KL
        go_wp2_with fail
        refine KL.out.mono ?_
        rintro e w1 ⟨rfl, hb1⟩
        have HB1 := Lib.hid (HB.out.trans (hb1.mono hws))
        clear hb1 e0 e1 e2 e3 KL
        go_wp2
        go_ret
        exact ⟨false, rfl, by simp, HB1.out⟩
      · rw [hi] at KL
        have HT4 := Lib.hid (HT3.out hi)
        go_wp2_with fail
        refine KL.out.mono ?_
        rintro e w1 ⟨rfl, hb1⟩
        have HB1 := Lib.hid (HB.out.trans (hb1.mono hws))
        clear hb1 e0 e1 e2 e3 KL
        by_cases h2k : k + 1 ≤ 2000
        · have h2k' : decide ((2000 : Int) < (k : Int) + 1) = false := by simp; omega
          go_wp2
          go_roundw
          case rel => exact ⟨k + 1, by omega, by go_num, by go_num, h2k, HT4.out, HB1.out⟩
          case measure => simp [intOf]; omega
        · have h2k' : decide ((2000 : Int) < (k : Int) + 1) = true := by simp; omega
          go_wp2
          go_ret
          exact ⟨false, rfl, by simp, HB1.out⟩
    · have hkl : k = ps.length := by omega
      go_wp2
      go_ret
      refine ⟨true, rfl, fun _ => ⟨by omega, fun p hp => HT.out p ?_⟩, HB.out⟩
      rw [hkl, List.take_length]
      exact hp
end Go.Proofs.YtcldbjgikkfnbaaGreatDoor

/-
  espalierlaw11.works: a walk, given what the operation, its reference and Fits come to. Printed by a program of mine (gen_works.py). Conditions: the values lie in memory.
-/
namespace Go.Proofs.YtcldbjgikkfnbaaGreatDoor
open Go.RowKit
set_option linter.unusedVariables false

theorem blk11_cells {w : World} {b : Nat} {cs : Array Value} {T : TypeId} {z : Nat × Nat} (h : w.heap[b]? = some (.cells cs T z)) (j : Nat) : w.cell? ⟨b, j, none⟩ = cs[j]? := by simp [World.cell?, h]
theorem blk11_new {w : World} {o : Obj} {n : Nat} (h : w.heap.size = n) : (w.alloc o).heap[n]? = some o := h ▸ heap_alloc_new w o
theorem blk11_free {w : World} {b : Nat} {cs : Array Value} {T : TypeId} (h : w.heap[b]? = some (.cells cs T (0, 0))) (j : Nat) : w.frozen? ⟨b, j, none⟩ = false := by simp [World.frozen?, h]
set_option maxRecDepth 100000 in
set_option maxHeartbeats 8000000 in
theorem law11_works (op : ByteArray) (ps : List Pl) (A : Option Addr) (c : Nat) (w : World) (hlen : ps.length * 56 ≤ 140737488351232) (hl : Pls.lies w w.heap.size ps A) (hcaps : CapsAt w ps A)
    {R : Value → Int → ByteArray → World → Prop} {R' : Pl → Option Addr → Nat → Int → ByteArray → World → Prop}
    (HW : (∀ p ∈ ps, p.isLight = true) → ∀ (A : Option Addr) (c : Nat) (w : World), Pls.lies w w.heap.size ps A → Calls Tryz.prog 12 #[.string op, .slice A ps.length c] w (fun e w' => ∃ v n s, e = .returned (.tuple #[v, .int .i64 n, .string s]) ∧ R v n s w' ∧ Below w.heap.size w w'))
    (HR : (∀ p ∈ ps, p.isLight = true) → ∀ (A : Option Addr) (c : Nat) (w : World), Pls.lies w w.heap.size ps A → CapsAt w ps A → Calls Tryz.prog 17 #[.string op, .slice A ps.length c] w (fun e w' => ∃ p A' c' n s, e = .returned (.tuple #[p.arg A' c', .int .i64 n, .string s]) ∧ R' p A' c' n s w' ∧ Below w.heap.size w w'))
    (HF : ∀ v n s p A' c' n' s' w1 w2 w3, R v n s w1 → Below w1.heap.size w1 w2 → R' p A' c' n' s' w2 → Below w2.heap.size w2 w3 → s = s' ∧ Calls Tryz.prog 24 #[v, .int .i64 n, p.arg A' c', .int .i64 n'] w3 (Bel (.bool true) w3)) :
    Calls Tryz.prog 9 #[.agg #[.string op, .slice A ps.length c]] w (Bel (.bool true) w) := by
  obtain ⟨i0, hi, hz0, hz1, hz2⟩ := info_plain_parts
  have HL := Lib.hid hl
  have HCP := Lib.hid hcaps
  have GW := Lib.hid HW
  have GR := Lib.hid HR
  have GF := Lib.hid HF
  clear hl hcaps HW HR HF
  have HB0 := Lib.hid ((Below.refl w.heap.size w).alloc (Nat.le_refl _) (.cells #[.string op, .slice A ps.length c] 27))
  have KL0 := Lib.hid (law11_light ps A c _ hlen (HL.out.below HB0.out HB0.out.size))
  have HX0 := Lib.hid (heap_alloc_new w (.cells #[.string op, .slice A ps.length c] 27))
  go_enter Tryz.func9, Tryz.ntmps9
  go_wp2_with fail
  refine KL0.out.mono ?_
  rintro e w1 ⟨q, rfl, hq, hb⟩
  have HB1 := Lib.hid (HB0.out.trans (hb.mono HB0.out.size))
  have HX1 := Lib.hid ((hb.block w.heap.size (by simp)).trans HX0.out)
  clear hb HX0 KL0
  cases q
  · go_wp2
    go_ret
    exact ⟨rfl, HB1.out⟩
  obtain ⟨h2k, hall⟩ := hq rfl
  have HA := Lib.hid hall
  clear hq hall
  go_wp2
  go_loopw [4, 3] (fun s4 s3 wr => ∃ (k : Nat) (us : List PlAt), k ≤ ps.length ∧ s4 = .int .i64 (k : Int) ∧ us.map PlAt.p = ps.take k ∧ TwOwn (w.heap.size + 1) wr s3 us ∧ wr.heap[w.heap.size]? = some (.cells #[.string op, .slice A ps.length c] 27) ∧ Below w.heap.size w wr) (fun s4 _ _ => ps.length - (intOf s4).toNat)
  case atStart => exact ⟨0, [], Nat.zero_le _, rfl, by simp, TwOwn.nil _ _, HX1.out, HB1.out⟩
  case round =>
    obtain ⟨k, us, hk, rfl, hus, hown, hx, hbel⟩ := hrel
    have HU := Lib.hid hus
    have HO := Lib.hid hown
    have HB := Lib.hid hbel
    have HX := Lib.hid hx
    have hxl := lt_of_block hx
    have hws : w.heap.size ≤ wr.heap.size := hbel.size
    have bx := blk11_cells hx
    clear hus hown hbel HX1 HB1 hx
    by_cases hlt : k < ps.length
    · have hul : us.length = k := by have := congrArg List.length HU.out; simpa [Nat.min_eq_left hk] using this
      subst hul
      obtain ⟨b', o', rfl⟩ := HL.out.head (by omega)
      have hlies := (HL.out.below HB.out (by omega : w.heap.size ≤ wr.heap.size)).at_ us.length hlt
      have hsn := Lib.hid hlies.sane
      obtain ⟨hbb, e0, e1, e2, hlen2, A', c', e3, hll⟩ := hlies.parts
      have hli := Lib.hid (HA.out ps[us.length] (List.getElem_mem hlt))
      have HU3 := Lib.hid (fun A1 c1 => show (us ++ [(⟨ps[us.length], A1, c1⟩ : PlAt)]).map PlAt.p = ps.take (us.length + 1) by rw [List.map_append, HU.out, List.take_succ_eq_append_getElem hlt]; rfl)
      have KT := Lib.hid (law2_Twin ps[us.length] A' c' wr hsn.out (hll.below (Below.refl _ _) (Nat.le_refl _)))
      generalize hp : ps[us.length] = p at *
      clear hlies hp hll
      unfold Pl.arg at KT
      go_wp2_with fail
      refine KT.out.mono ?_
      rintro e w2 ⟨A1, c1, rfl, hm, hb2⟩
      have HM := Lib.hid hm
      have HB2 := Lib.hid hb2
      have hs2 := hb2.size
      have HX2 := Lib.hid ((hb2.block _ hxl).trans HX.out)
      clear hm hb2 KT e0 e1 e2 e3 bx
      unfold Pl.arg
      have HB4 := Lib.hid (HB2.out.alloc HB2.out.size (.cells #[.int .i64 p.kind, .int .i64 p.num, .string p.text, .slice A1 p.list.length c1] 31))
      have HT4 : Hid (TwEl (w.heap.size + 1) (w2.alloc (.cells #[.int .i64 p.kind, .int .i64 p.num, .string p.text, .slice A1 p.list.length c1] 31)) (fresh wr (w2.alloc (.cells #[.int .i64 p.kind, .int .i64 p.num, .string p.text, .slice A1 p.list.length c1] 31))) ⟨p, A1, c1⟩) := Lib.hid ⟨hsn.out, fun _ => HM.out.keep (fun b o hs => World.cell?_alloc_lt _ _ _ hs.2) (fun b hs => ⟨hs.1, by rw [size_alloc]; have := hs.2; omega⟩), fun h => absurd (hli.out.symm.trans h) (by decide)⟩
      have hown2 := Lib.hid (own_below HO.out.own HB4.out |>.alloc (.cells (p.cells4 A1 c1).toArray 31))
      have hz4 := Lib.hid (size_alloc w2 (.cells #[.int .i64 p.kind, .int .i64 p.num, .string p.text, .slice A1 p.list.length c1] 31))
      unfold Pl.cells4 at hown2
      go_wp2_with (at_builtin; refine wpList_append_lies _ rfl _ _ 25 rfl (w.heap.size + 1) 31 i0 _ 4 56 Tryz.underlying25 hi hz0 hz1 hz2 rfl (by decide) _ us.length (us.flatMap PlAt.cells) rfl hown2.out ⟨w2.heap.size + 1, 0, none⟩ 1 1 (p.cells4 A1 c1) rfl rfl (World.news_of_block (by exact blk11_new (size_alloc _ _))) (by intro u hu; unfold Pl.cells4 at hu; simp at hu; rcases hu with rfl | rfl | rfl | rfl <;> rfl) (by decide) (by unfold maxLen; omega) (by omega) (by simp; omega) (w2.heap.size + 2) (by simp) ?_)
      intro g cap w3 hown3 hgr3 hat hlt3
      have HO3 := Lib.hid (HO.out.step ⟨p, A1, c1⟩ (by omega) HB4.out HT4.out hgr3 (by rw [hz4.out]; exact hat) hown3)
      have HX3 : Hid (w3.heap[w.heap.size]? = _) := Lib.hid ((hgr3.block _ (by rw [size_alloc, size_alloc]; omega) (fun e => by have := (HO.out.own.lt _ e.symm).1; omega)).trans ((Below.heap_alloc _ _ _ (by rw [size_alloc]; omega)).trans ((Below.heap_alloc _ _ _ (by omega)).trans HX2.out)))
      have HB3 := Lib.hid (((HB.out.trans (HB4.out.mono hws)).alloc (by rw [size_alloc]; omega) _).grown hgr3 (by rw [size_alloc, size_alloc]; omega) (fun q e => by have := (HO.out.own.lt q e).1; omega))
      clear hown3 hgr3 hown2 hat
      go_wp2
      go_roundw
      case rel => exact ⟨us.length + 1, us ++ [(⟨p, A1, c1⟩ : PlAt)], by omega, by go_num, HU3.out _ _, HO3.out, HX3.out, HB3.out⟩
      case measure => simp [intOf]; omega
    · have hps : us.map PlAt.p = ps := by rw [HU.out, List.take_of_length_le (by omega)]
      have hul : us.length = ps.length := by have := congrArg List.length hps; simpa using this
      have hkl : k = ps.length := by omega
      obtain ⟨A2, c2, hv, _⟩ := HO.out.slice
      have HV := Lib.hid hv
      have HL2 := HO.out.lies (by omega) hv
      rw [hps] at HL2
      have KW := Lib.hid (GW.out HA.out A2 c2 wr HL2)
      rw [hul] at hv
      subst hv
      subst hkl
      have HPS := Lib.hid hps
      clear hps HL2 HU hk hlt
      go_wp2_with fail
      refine KW.out.mono ?_
      rintro e w2 ⟨v, n, s, rfl, hR, hb2⟩
      have HB2 := Lib.hid hb2
      have HRR := Lib.hid hR
      have hs2 := hb2.size
      have hx2 := (hb2.block _ hxl).trans HX.out
      have HX2 := Lib.hid hx2
      have bx2 := blk11_cells hx2
      have KR := Lib.hid (GR.out HA.out A c w2 (HL.out.below (HB.out.trans (hb2.mono hws)) (by omega)) (HCP.out.below HL.out (HB.out.trans (hb2.mono hws))))
      clear hR hb2 hx2 bx KW GW GR
      go_wp2_with fail
      refine KR.out.mono ?_
      rintro e w3 ⟨p, A', c', n', s', rfl, hR', hb3⟩
      have HB3 := Lib.hid hb3
      have hs3 := hb3.size
      have HX3 := Lib.hid ((hb3.block _ (by omega)).trans HX2.out)
      have HB4 := Lib.hid ((Below.refl w3.heap.size w3).alloc (Nat.le_refl _) (.cells #[.int .i64 p.kind, .int .i64 p.num, .string p.text, .slice A' p.list.length c'] 31))
      obtain ⟨hse, hf⟩ := GF.out v n s p A' c' n' s' w2 w3 _ HRR.out HB3.out hR' HB4.out
      have KF := Lib.hid hf
      subst hse
      clear hR' hb3 bx2 hf KR GF
      unfold Pl.arg at KF ⊢
      go_wp2_with fail
      refine KF.out.mono ?_
      rintro e w5 ⟨rfl, hb5⟩
      have HB5 := Lib.hid (HB3.out.trans ((HB4.out.trans (hb5.mono HB4.out.size)).mono HB3.out.size))
      have HX5 := Lib.hid ((hb5.block _ (by rw [size_alloc]; omega)).trans ((HB4.out.block _ (by omega)).trans HX3.out))
      have hs5 : w2.heap.size ≤ w5.heap.size := HB5.out.size
      have HBW := Lib.hid (HB.out.trans ((HB2.out.trans (HB5.out.mono HB2.out.size)).mono hws))
      have HO5 := Lib.hid ((HO.out.below HB2.out (by omega)).below HB5.out (by omega))
      have hss : (s.toList == s.toList) = true := by simp
      clear hb5 KF HX HO HB HRR HX2 HX3 HB3 HB4 HB5 HB2
      go_wp2
      go_loopw [13, 12] (fun s13 s12 wr => ∃ (k : Nat), k ≤ ps.length ∧ s13 = .int .i64 (k : Int) ∧ s12 = .bool true ∧ Below w5.heap.size w5 wr) (fun s13 _ _ => ps.length - (intOf s13).toNat)
      case atStart => exact ⟨0, Nat.zero_le _, rfl, rfl, Below.refl _ _⟩
      case round =>
      obtain ⟨k, hk, rfl, rfl, hbel⟩ := hrel
      have HB6 := Lib.hid hbel
      have hs6 := hbel.size
      clear hbel
      by_cases hlt : k < ps.length
      · have hu : k < us.length := by omega
        have ho := HO5.out.below HB6.out (by omega)
        have hxw := (HB6.out.block _ (lt_of_block HX5.out)).trans HX5.out
        have bx := blk11_cells hxw
        obtain ⟨A3, c3, e3, hx⟩ := ho.slice
        injection e3 with hA3 hlq hc3
        clear hlq
        subst hA3 hc3
        obtain ⟨g, rfl, hg, hcs⟩ := hx (by omega)
        have hl := HL.out.below (HBW.out.trans (HB6.out.mono HBW.out.size)) (Nat.le_trans HBW.out.size HB6.out.size)
        obtain ⟨b', o', rfl⟩ := hl.head (by omega)
        have hlies := hl.at_ k hlt
        have hlx := Lib.hid (HA.out ps[k] (List.getElem_mem hlt))
        have hpe : ps[k] = us[k].p := by
          have e := HPS.out
          have h1 : (us.map PlAt.p)[k]? = ps[k]? := by rw [e]
          rw [List.getElem?_map, List.getElem?_eq_getElem hu, List.getElem?_eq_getElem hlt] at h1
          exact (Option.some.inj h1).symm
        rw [hpe] at hlies hlx
        clear hpe
        have hsn := Lib.hid hlies.sane
        obtain ⟨hbb, e0, e1, e2, hlen2, A4, c4, e3, hll⟩ := hlies.parts
        have hel := Lib.hid (ho.els us[k] (List.getElem_mem hu))
        have d0 : wr.cell? ⟨g, k * 4, none⟩ = some (.int .i64 us[k].p.kind) := hcs k hu 0 _ rfl
        have d1 : wr.cell? ⟨g, k * 4 + 1, none⟩ = some (.int .i64 us[k].p.num) := hcs k hu 1 _ rfl
        have d2 : wr.cell? ⟨g, k * 4 + 2, none⟩ = some (.string us[k].p.text) := hcs k hu 2 _ rfl
        have d3 : wr.cell? ⟨g, k * 4 + 3, none⟩ = some (.slice us[k].A us[k].p.list.length us[k].c) := hcs k hu 3 _ rfl
        have b1 : wr.cell? ⟨w.heap.size, 1, none⟩ = some (.slice (some ⟨b', o', none⟩) ps.length c) := bx 1
        generalize us[k] = x at *
        have KK := Lib.hid (fun y : Ext wr => law2_Kept x.p x.A A4 x.c c4 y.now hsn.out ((hel.out.2.1 hlx.out).keep (fun b o hs => y.ok.cell (p := ⟨b, o, none⟩) hs.2.1) (fun b hs => Nat.lt_of_lt_of_le hs.2.1 y.ok.size)) (hll.below y.ok y.ok.size))
        unfold Pl.arg at KK
        have E0 := Ext.cell (w := wr) e0
        have E1 := Ext.cell (w := wr) e1
        have E2 := Ext.cell (w := wr) e2
        have E3 := Ext.cell (w := wr) e3
        have D0 := Ext.cell (w := wr) d0
        have D1 := Ext.cell (w := wr) d1
        have D2 := Ext.cell (w := wr) d2
        have D3 := Ext.cell (w := wr) d3
        have B1 := Ext.cell (w := wr) b1
        clear e0 e1 e2 e3 d0 d1 d2 d3 b1 bx hlies hl hll hcs hx ho hel hxw
        go_upto_region 15 with fail
        refine wp_region_ext (by kernel_rfl) (by kernel_rfl) ?_
        go_big_quiet_step (fail)
        go_big_quiet_step (fail)
        go_big_quiet_step (fail)
        go_big_quiet_step (fail)
        go_big_quiet_step (fail)
        go_big_quiet_step (fail)
        go_big_quiet_step (fail)
        go_big_quiet_step (fail)
        go_big_quiet_step (fail)
        go_big_quiet_step ((go_at_call 25; exact Calls.ext_of (KK.out _)))
        go_big_quiet_step (fail)
        refine wpQuiet_nil ?_
        rintro _ ⟨z, rfl⟩
        have HB7 := Lib.hid (HB6.out.trans (z.ok.mono HB6.out.size))
        clear D0 D1 D2 D3 E0 E1 E2 E3 B1 KK
        generalize z.now = w7 at *
        go_wp2
        go_roundw
        case rel => exact ⟨k + 1, by omega, by go_num, rfl, HB7.out⟩
        case measure => simp [intOf]; omega
      · go_wp2
        go_ret
        exact ⟨rfl, HBW.out.trans (HB6.out.mono HBW.out.size)⟩
end Go.Proofs.YtcldbjgikkfnbaaGreatDoor

/-
  espalierlaw11.ListWork: a walk, for any operations. Printed by a program of mine (gen_oplaw.py). Conditions: they lie in memory.
-/
namespace Go.Proofs.YtcldbjgikkfnbaaGreatDoor
open Go.RowKit
set_option linter.unusedVariables false

set_option maxRecDepth 100000 in
set_option maxHeartbeats 8000000 in
theorem law11_ops (hW : ∀ (op : ByteArray) (ps : List Pl) (A : Option Addr) (c : Nat) (w : World), ps.length * 56 ≤ 140737488351232 → Pls.lies w w.heap.size ps A → CapsAt w ps A → Calls Tryz.prog 9 #[.agg #[.string op, .slice A ps.length c]] w (Bel (.bool true) w))
    (n : Nat) (A : Option Addr) (c : Nat) (w : World) (hA : 0 < n → ∃ b o, A = some ⟨b, o, none⟩ ∧ ∀ k, k < n → ∃ op ps A c, CallAt w b (o + k * 2) op ps A c ∧ CapsAt w ps A) :
    Calls Tryz.prog 3 #[.slice A n c] w (Bel (.bool true) w) := by
  have HA := Lib.hid hA
  have GW := Lib.hid hW
  clear hA hW
  go_enter Tryz.func3, Tryz.ntmps3
  go_wp2_with fail
  refine (law11_begun w).mono ?_
  rintro e w1 ⟨rfl, hb1⟩
  have HB1 := Lib.hid hb1
  clear hb1
  go_wp2
  go_loopw [3] (fun s3 wr => ∃ (k : Nat), k ≤ n ∧ s3 = .int .i64 (k : Int) ∧ Below w.heap.size w wr) (fun s3 _ => n - (intOf s3).toNat)
  case atStart => exact ⟨0, Nat.zero_le _, rfl, HB1.out⟩
  case round =>
    obtain ⟨k, hk, rfl, hbel⟩ := hrel
    have HB := Lib.hid hbel
    have hws := hbel.size
    clear hbel
    by_cases hlt : k < n
    · by_cases h2k : k < 400
      · obtain ⟨b, o, rfl, hcalls⟩ := HA.out (by omega)
        obtain ⟨op, ps, A', c', hcall, hcp⟩ := hcalls k hlt
        have hc := hcall.below HB.out
        have KW := Lib.hid (GW.out op ps A' c' wr hc.len hc.lies (hcp.below hcall.lies HB.out))
        have e0 := hc.op_
        have e1 := hc.args
        clear hcalls hcall hc hcp
        go_wp2_with fail
        refine KW.out.mono ?_
        rintro e w2 ⟨rfl, hb2⟩
        have HB2 := Lib.hid (HB.out.trans (hb2.mono hws))
        clear hb2 KW e0 e1
        go_wp2
        go_roundw
        case rel => exact ⟨k + 1, by omega, by go_num, HB2.out⟩
        case measure => simp [intOf]; omega
      · have h2k' : decide ((k : Int) < 400) = false := by simp; omega
        go_wp2
        go_ret
        exact ⟨rfl, HB.out⟩
    · go_wp2
      go_ret
      exact ⟨rfl, HB.out⟩
end Go.Proofs.YtcldbjgikkfnbaaGreatDoor
