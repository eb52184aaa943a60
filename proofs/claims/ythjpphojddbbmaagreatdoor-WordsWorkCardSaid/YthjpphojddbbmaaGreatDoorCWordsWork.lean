/-
  words.Work: a walk, for any operation of the table and any plain values. Conditions: they lie in memory.
-/
import Derived.Test.YthjpphojddbbmaaGreatDoorCWordsTab
import Derived.Test.YthjpphojddbbmaaGreatDoorCWorthVal
import Derived.Test.YthjpphojddbbmaaGreatDoorCPlFits
import Derived.Test.YthjpphojddbbmaaGreatDoorCValRow
import Derived.Laws.EntriesVeiled
namespace Go.Proofs.YthjpphojddbbmaaGreatDoor
open Go.RowKit
set_option linter.unusedVariables false

/-- What words.Work gives: n values are asked; q: they are of the sorts; r: what the operation gives then. -/
def wRes (n : Nat) (q : Bool) (r : Value) (ps : List Pl) : Value := if ps.length = n then (if ps.all Pl.mayB = true then wIf q r else wFault 1) else wFault 11
theorem blkw_cells {w : World} {b : Nat} {cs : Array Value} {T : TypeId} {z : Nat × Nat} (h : w.heap[b]? = some (.cells cs T z)) (j : Nat) : w.cell? ⟨b, j, none⟩ = cs[j]? := by simp [World.cell?, h]
theorem w_Work_none (op : ByteArray) (hf : Instr.findNow .string (.string op) wTab.toList 0 = some none) (v : Value) (w : World) : Calls Tryz.prog 10 #[.string op, v] w (Bel (wFault 1) w) := by
  have hl := run_lookup_miss (P := Tryz.prog) (T := 63) (K := 9) (E := 61) (r := w.heap.size) (es := wTab) (c := 8) (s := op) (w := w.alloc (.map wTab 8)) (z := .agg #[.string ⟨#[]⟩, .int .u8 0, .bool false, .nilFunc]) Tryz.underlying63 Tryz.underlying9 (by kernel_rfl) (heap_alloc_new w _) hf
  have HB := Lib.hid ((Below.refl w.heap.size w).alloc (Nat.le_refl _) (.map wTab 8))
  clear hf
  go_enter Tryz.func10, Tryz.ntmps10
  go_wp2_with fail
  refine (w_operations w).mono ?_
  rintro e w' ⟨rfl, rfl⟩
  go_wp2_with fail
  refine (w_fault 1 _).mono ?_
  rintro e w' ⟨rfl, rfl⟩
  go_wp2
  go_ret3
  exact ⟨rfl, HB.out.alloc (by simp) _⟩
set_option maxRecDepth 100000 in
set_option maxHeartbeats 8000000 in
theorem w_Work {op : ByteArray} {i : Nat} {ins : ByteArray} {out : Int} {sure : Bool} {f : FuncId} (hf : Instr.findNow .string (.string op) wTab.toList 0 = some (some (i, opVal ins out sure f)))
    (hcall : ∀ (args : Array Value) (w : World), (callFunc f args).run Tryz.prog w = .ok (.enter f args) w)
    (n : Nat) (hn : ins.size = n) (h3 : n ≤ 3) (h1 : 1 ≤ n) (ps : List Pl) (A : Option Addr) (c : Nat) (w : World) (hlen : ps.length * 56 ≤ 140737488351232) (hl : Pls.lies w w.heap.size ps A)
    (q : Bool) (hq1 : q = true → ps.length = n → ∀ j (h : j < ps.length) (h' : j < ins.size), letterB ps[j].toVl (ins[j].toNat : Int) = true) (hq0 : q = false → ps.length = n → ∃ j, ∃ (h : j < ps.length) (h' : j < ins.size), letterB ps[j].toVl (ins[j].toNat : Int) = false)
    (r : Value) (hr : ∃ a k s, r = .tuple #[a, .int .i64 k, .string s])
    (hR : q = true → ps.length = n → (∀ j (h : j < ps.length), ps[j].mayB = true) → ∀ (g c' : Nat) (us : List Value) (w' : World), us.length = n → Below w.heap.size w w' → (∀ j (h : j < us.length), w'.cell? ⟨g, 0 + j, none⟩ = some us[j]) → (∀ j (h : j < ps.length) (h' : j < us.length), ps[j].toVl.is w' (fun b => b < w'.heap.size) us[j]) → Calls Tryz.prog f #[.slice (some ⟨g, 0, none⟩) us.length c'] w' (Bel r w')) :
    Calls Tryz.prog 10 #[.string op, .slice A ps.length c] w (Bel (wRes n q r ps) w) := by
  have hlk := run_lookup_hit (P := Tryz.prog) (T := 63) (K := 9) (E := 61) (r := w.heap.size) (es := wTab) (c := 8) (s := op) (w := w.alloc (.map wTab 8)) Tryz.underlying63 Tryz.underlying9 (heap_alloc_new w _) hf
  unfold opVal at hlk
  obtain ⟨i0, hi, hz0, hz1, hz2⟩ := info_parts info_val
  have HN := Lib.hid hn
  have HL := Lib.hid hl
  have HQ1 := Lib.hid hq1
  have HQ0 := Lib.hid hq0
  have HRR := Lib.hid hR
  have HRS := Lib.hid hr
  have HB0 := Lib.hid (((Below.refl w.heap.size w).alloc (Nat.le_refl _) (.map wTab 8)).alloc (by simp) (.cells #[.string ins, .int .u8 out, .bool sure, .func (.func f) #[] #[]] 61))
  have HO0 := Lib.hid (heap_alloc2 w (.map wTab 8) (.cells #[.string ins, .int .u8 out, .bool sure, .func (.func f) #[] #[]] 61)).2
  clear hf hl hq1 hq0 hR hr
  by_cases hcount : ¬ ps.length = n
  · have hres := Lib.hid (show wRes n q r ps = wFault 11 by unfold wRes; rw [if_neg hcount])
    have b1 : ((ps.length : Int) == (ins.size : Int)) = false := by simp; omega
    have b2 : ((ps.length : Int) != (ins.size : Int)) = true := by simp; omega
    have b3 : (ps.length == ins.size) = false := by simp; omega
    have b4 : (ps.length != ins.size) = true := by simp; omega
    clear hcount hn
    go_enter Tryz.func10, Tryz.ntmps10
    go_wp2_with fail
    refine (w_operations w).mono ?_
    rintro e w' ⟨rfl, rfl⟩
    go_wp2_with fail
    refine (w_fault 11 _).mono ?_
    rintro e w' ⟨rfl, rfl⟩
    go_wp2
    go_ret3
    exact ⟨by rw [hres.out]; rfl, HB0.out⟩
  rw [Classical.not_not] at hcount
  have HCN := Lib.hid hcount
  have b1 : ((ps.length : Int) == (ins.size : Int)) = true := by simp; omega
  have b2 : ((ps.length : Int) != (ins.size : Int)) = false := by simp; omega
  have b3 : (ps.length == ins.size) = true := by simp; omega
  have b4 : (ps.length != ins.size) = false := by simp; omega
  clear hcount hn
  go_enter Tryz.func10, Tryz.ntmps10
  go_wp2_with fail
  refine (w_operations w).mono ?_
  rintro e w' ⟨rfl, rfl⟩
  go_wp2
  clear b1 b2 b3 b4 hlk
  go_loopw [9, 38] (fun s9 s38 wr => ∃ (k : Nat) (us : List Value), k ≤ ps.length ∧ s38 = .int .i64 (k : Int) ∧ us.length = k ∧ wr.ownsRow (w.heap.size + 2) 29 1 s9 k us ∧
      (∀ j (h : j < ps.length) (h' : j < us.length), ps[j].toVl.is wr (fun b => (w.heap.size + 2 ≤ b ∧ b < wr.heap.size) ∧ s9.ownBlock ≠ some b) us[j]) ∧ (∀ j (h : j < ps.length), j < k → ps[j].mayB = true) ∧ wr.heap[w.heap.size + 1]? = some (.cells #[.string ins, .int .u8 out, .bool sure, .func (.func f) #[] #[]] 61) ∧ Below w.heap.size w wr) (fun _ s38 _ => ps.length - (intOf s38).toNat)
  case atStart => exact ⟨0, [], Nat.zero_le _, rfl, rfl, World.ownsRow_nil _ _ _ _, fun j h h' => absurd h' (by simp), fun j h h' => absurd h' (by omega), HO0.out, HB0.out⟩
  case round =>
    obtain ⟨k, us, hk, rfl, hus, hown, hel, hok, hob, hbel⟩ := hrel
    have HE := Lib.hid hel
    have HU := Lib.hid hus
    have HK := Lib.hid hok
    have HBL := Lib.hid hbel
    have HO := Lib.hid hown
    have HOB := Lib.hid hob
    have hsz2 : w.heap.size + 1 < wr.heap.size := lt_of_block hob
    have hsz : w.heap.size ≤ wr.heap.size := by omega
    have hsz3 : w.heap.size + 2 ≤ wr.heap.size := by omega
    have f0 := blkw_cells hob
    clear hus hbel hok hown hob
    by_cases hlt : k < ps.length
    · clear hel
      have hlt1 : k < 3 := by have := HCN.out; omega
      obtain ⟨b', o', rfl⟩ := HL.out.head (by omega)
      have hlies := ((HL.out.below HBL.out (Nat.le_refl _)).at_ k hlt)
      have hsn := Lib.hid hlies.sane
      obtain ⟨hbb, e0, e1, e2, hlen2, A', c', e3, hll⟩ := hlies.parts
      have HX0 := Lib.hid ((Below.refl w.heap.size wr).alloc hsz (.cells #[.int .i64 ps[k].kind, .int .i64 ps[k].num, .string ps[k].text, .slice A' ps[k].list.length c'] 34))
      have KO := Lib.hid (worth_Of ps[k] A' c' (wr.alloc (.cells #[.int .i64 ps[k].kind, .int .i64 ps[k].num, .string ps[k].text, .slice A' ps[k].list.length c'] 34)) hsn.out (hll.below HX0.out (by rw [size_alloc]; omega)))
      unfold WOfPost Pl.arg at KO
      clear hll hlies f0
      go_wp2_with fail
      refine KO.out.mono ?_
      rintro e w2 (⟨hm, v, rfl, hv, hb2⟩ | ⟨hm, rfl, hb2⟩)
      · obtain ⟨vt, vx, rfl⟩ := hv.iface
        have HV := Lib.hid hv
        have HB2 := Lib.hid hb2
        have HM := Lib.hid hm
        have hs2 := hb2.size
        rw [size_alloc] at hs2
        have HOB2 := Lib.hid ((hb2.block (w.heap.size + 1) (by rw [size_alloc]; omega)).trans ((Below.heap_alloc _ _ _ (by omega)).trans HOB.out))
        have hone := one_new w2 (.iface vt vx) 29
        have hown3 := own_below (HO.out.alloc (.cells #[.int .i64 ps[k].kind, .int .i64 ps[k].num, .string ps[k].text, .slice A' ps[k].list.length c'] 34)) HB2.out
        clear hv hb2 hm e0 e1 e2 e3 KO
        go_wp2_with (at_builtin; refine wpList_append_own_at _ rfl _ _ 66 rfl (w.heap.size + 2) 29 i0 .nilIface 1 16 Tryz.underlying66 hi hz0 hz1 hz2 rfl (by decide) _ _ _ rfl (hown3.alloc _) ⟨w2.heap.size, 0, none⟩ 1 1 [.iface vt vx] rfl rfl hone (by intro u hu; simp at hu; subst hu; rfl) (by unfold maxLen; omega) (by omega) (by simp; omega) ?_)
        intro v' w4 hown4 hgr4 _ hblk
        have hel4 := val_step hlt HU.out HO.out (Below.refl _ _) HB2.out hgr4 (by rw [size_alloc]; exact hblk) HE.out HV.out hsz3
        have hs4 := hgr4.size
        rw [size_alloc] at hs4
        have hb4 : Below w.heap.size w w4 := (((HBL.out.alloc hsz _).trans (HB2.out.mono (by rw [size_alloc]; omega))).alloc (by omega) _).grown hgr4 (by rw [size_alloc]; omega) (fun g hg => by have := (HO.out.lt g hg).1; omega)
        have hob4 : w4.heap[w.heap.size + 1]? = _ := (hgr4.block _ (by rw [size_alloc]; omega) (fun e => by have := (HO.out.lt _ e.symm).1; omega)).trans ((Below.heap_alloc _ _ _ (by omega)).trans HOB2.out)
        have hok4 : ∀ j (h : j < ps.length), j < k + 1 → ps[j].mayB = true := fun j h hj => by
          by_cases e : j = k
          · subst e; exact HM.out
          · exact HK.out j h (by omega)
        have hlen4 : (us ++ [Value.iface vt vx]).length = k + 1 := by simp [HU.out]
        have H1 := Lib.hid hel4
        have H2 := Lib.hid hb4
        have H3 := Lib.hid hok4
        have H4 := Lib.hid hlen4
        have H5 := Lib.hid hown4
        have H6 := Lib.hid hob4
        clear hel4 hb4 hok4 hlen4 hown4 hgr4 hblk hown3 hone hob4
        go_wp2
        go_roundw
        case rel => exact ⟨k + 1, us ++ [.iface vt vx], by omega, by go_num, H4.out, H5.out, H1.out, H3.out, H6.out, H2.out⟩
        case measure => simp [intOf]; omega
      · have hres := Lib.hid (show wRes n q r ps = wFault 1 by
          have hall : ¬ ps.all Pl.mayB = true := fun h => by
            rw [List.all_eq_true] at h
            rw [h _ (List.getElem_mem hlt)] at hm
            cases hm
          unfold wRes; rw [if_pos HCN.out, if_neg hall])
        have HB3 := Lib.hid ((HBL.out.alloc hsz _).trans (hb2.mono (by rw [size_alloc]; omega)))
        clear hb2 hm KO e0 e1 e2 e3
        go_wp2_with fail
        refine (w_fault 1 _).mono ?_
        rintro e w' ⟨rfl, rfl⟩
        go_wp2
        go_ret3
        exact ⟨by rw [hres.out]; rfl, HB3.out⟩
    · have hkl : k = ps.length := by omega
      have hres := Lib.hid (show wRes n q r ps = wIf q r by
        unfold wRes
        rw [if_pos HCN.out, if_pos]
        rw [List.all_eq_true]
        intro p hp
        obtain ⟨j, hj, rfl⟩ := List.getElem_of_mem hp
        exact HK.out j hj (by omega))
      obtain ⟨g, cap, hs9⟩ : ∃ g cap, u9 = Value.slice (some ⟨g, 0, none⟩) us.length cap := by
        have := HU.out
        have := HCN.out
        rcases HO.out.2 with ⟨_, h2⟩ | ⟨g, cap, cur, e, _⟩
        · omega
        · exact ⟨g, cap, by rw [HU.out]; exact e⟩
      have HUL := Lib.hid (show us.length = ps.length by rw [HU.out]; exact hkl)
      have hglt := (HO.out.lt g (by rw [hs9]; rfl)).2
      have hcs : ∀ j (h : j < us.length), wr.cell? ⟨g, 0 + j, none⟩ = some us[j] := fun j h => by
        have h1 := HO.out
        rw [hs9, ← HU.out] at h1
        have := h1.cellAt j (by rw [Nat.mul_one]; have := HU.out; omega)
        rw [Nat.zero_add, this, List.getElem?_eq_getElem]
      subst hs9
      have hel2 : ∀ j (h : j < ps.length) (h' : j < us.length), ps[j].toVl.is wr (fun b => b < wr.heap.size) us[j] := fun j h h' => (HE.out j h h').keep (fun _ _ _ => rfl) (fun b hb => hb.1.2)
      have KD := Lib.hid (w_do ins out sure f (Pls.toVl ps) us g 0 cap (fun b => b < wr.heap.size) wr (by rw [Pls.toVl_length]; exact HUL.out) (by rw [Pls.toVl_length, HN.out]; exact HCN.out.symm) (by rw [Pls.toVl_length, HCN.out]; omega)
        hcs (fun j h h' => by rw [Pls.toVl_get ps j (by rw [Pls.toVl_length] at h; exact h) h]; exact hel2 j _ h') (fun b h => h) hcall q
        (fun hq j h h' => by rw [Pls.toVl_get ps j (by rw [Pls.toVl_length] at h; exact h) h]; exact HQ1.out hq HCN.out j _ h')
        (fun hq => by
          obtain ⟨j, h, h', hf⟩ := HQ0.out hq HCN.out
          exact ⟨j, by rw [Pls.toVl_length]; exact h, h', by rw [Pls.toVl_get ps j h]; exact hf⟩)
        r HRS.out (fun hq w' hb => HRR.out hq HCN.out (fun j h => HK.out j h (by omega)) g cap us w' (by rw [HUL.out]; exact HCN.out) (HBL.out.trans (hb.mono hsz)) (fun j h => (hb.cell (p := ⟨g, 0 + j, none⟩) hglt).trans (hcs j h))
          (fun j h h' => (hel2 j h h').keep (fun b o hs => hb.cell (p := ⟨b, o, none⟩) hs) (fun b hs => Nat.lt_of_lt_of_le hs hb.size))))
      obtain ⟨a, kk, s, hwi⟩ : ∃ a k s, wIf q r = .tuple #[a, .int .i64 k, .string s] := by
        cases q
        · exact ⟨_, _, _, rfl⟩
        · exact HRS.out
      rw [hwi] at KD
      have HWI := Lib.hid hwi
      clear hel hcs hel2 hwi hkl
      go_wp2_with fail
      refine KD.out.mono ?_
      rintro e w3 ⟨rfl, hb3⟩
      have HB3 := Lib.hid (HBL.out.trans (hb3.mono hsz))
      clear hb3
      go_wp2
      go_ret3
      exact ⟨by rw [hres.out, HWI.out]; rfl, HB3.out⟩
end Go.Proofs.YthjpphojddbbmaaGreatDoor
