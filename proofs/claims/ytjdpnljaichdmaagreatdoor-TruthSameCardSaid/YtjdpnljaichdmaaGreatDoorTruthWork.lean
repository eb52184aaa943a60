/-
  truth.Work: a walk, for any operation and any plain values. Conditions: they lie in memory.
-/
import Derived.Test.YtjdpnljaichdmaaGreatDoorTruthDo
import Derived.Test.YtjdpnljaichdmaaGreatDoorWorthVal
import Derived.Test.YtjdpnljaichdmaaGreatDoorTwOwn
import Derived.Test.YtjdpnljaichdmaaGreatDoorMapLaws
import Derived.Test.YtjdpnljaichdmaaGreatDoorValRow
namespace Go.Proofs.YtjdpnljaichdmaaGreatDoor
open Go.RowKit
set_option linter.unusedVariables false

def tTab : Array MapEntry := #[⟨.string tNot, .int .i64 1, 0⟩, ⟨.string tSame, .int .i64 2, 1⟩]
section
variable {P : Program}
theorem run_look_hit {T K E : TypeId} (hT : P.underlying T = some (.map K E)) (hK : P.underlying K = some .string) {r : Nat} {es : Array MapEntry} {c : Nat} {s : ByteArray} {i : Nat} {v : Value} {w : World}
    (hb : w.heap[r]? = some (.map es c)) (hf : Instr.findNow .string (.string s) es.toList 0 = some (some (i, v))) :
    (Instr.lookup T (.map (some r)) (.string s) false).run P w = .ok v w := by
  unfold Instr.lookup
  simp [Sem.run_bind, run_underlying hT, Result.andThen_ok, get_map hb, run_check_str hK, find_str hK hf]
theorem run_look_miss {T K E : TypeId} (hT : P.underlying T = some (.map K E)) (hK : P.underlying K = some .string) {r : Nat} {es : Array MapEntry} {c : Nat} {s : ByteArray} {z : Value} {w : World}
    (hz : (zeroValue E).run P w = .ok z w) (hb : w.heap[r]? = some (.map es c)) (hf : Instr.findNow .string (.string s) es.toList 0 = some none) :
    (Instr.lookup T (.map (some r)) (.string s) false).run P w = .ok z w := by
  unfold Instr.lookup
  simp [Sem.run_bind, run_underlying hT, Result.andThen_ok, get_map hb, run_check_str hK, find_str hK hf, hz]
end
theorem bytes_ne {a b : ByteArray} (h : a ≠ b) : (a == b) = false := by
  cases hq : a == b
  · rfl
  · exact absurd ((MapKept.bytes_beq _ _).mp hq) h
theorem t_other {op : ByteArray} (h1 : op ≠ tNot) (h2 : op ≠ tSame) : Instr.findNow .string (.string op) tTab.toList 0 = some none := by
  have e1 := bytes_ne h1
  have e2 := bytes_ne h2
  simp [tTab, Instr.findNow, Instr.sameNow, e1, e2]
theorem t_not : Instr.findNow .string (.string tNot) tTab.toList 0 = some (some (0, .int .i64 1)) := by kernel_rfl
theorem t_same : Instr.findNow .string (.string tSame) tTab.toList 0 = some (some (1, .int .i64 2)) := by kernel_rfl
set_option maxRecDepth 100000 in
set_option maxHeartbeats 4000000 in
theorem truth_Work_other (op : ByteArray) (h1 : op ≠ tNot) (h2 : op ≠ tSame) (v : Value) (w : World) : Calls Tryz.prog 17 #[.string op, v] w (Bel (tOut (1, false)) w) := by
  have hmm := @run_makeMap Tryz.prog
  have hl := run_look_miss (P := Tryz.prog) (T := 78) (K := 9) (E := 3) (r := w.heap.size) (es := tTab) (c := 2) (s := op) (w := w.alloc (.map tTab 2)) (z := .int .i64 0) Tryz.underlying78 Tryz.underlying9 (by kernel_rfl) (heap_alloc_new w _) (t_other h1 h2)
  have HB := Lib.hid ((Below.refl w.heap.size w).alloc (Nat.le_refl _) (.map tTab 2))
  unfold tTab tNot tSame at hl HB
  clear h1 h2
  go_enter Tryz.func17, Tryz.ntmps17
  go_wp2_with (refine wpList_insert_new _ rfl 78 9 3 _ _ _ rfl Tryz.underlying78 Tryz.underlying9 _ _ _ rfl rfl (by kernel_rfl) ?_)
  go_ret3
  exact ⟨rfl, HB.out⟩
def tWork1 (ps : List Pl) : Int × Bool := match ps with
  | [p] => if p.mayB then tDo1 p.toVl else (1, false)
  | _ => (11, false)
def tWork2 (ps : List Pl) : Int × Bool := match ps with
  | [p, q] => if p.mayB && q.mayB then tDo2 p.toVl q.toVl else (1, false)
  | _ => (11, false)
theorem tOut_parts (r : Int × Bool) : ∃ a n s, tOut r = .tuple #[a, .int .i64 n, .string s] := ⟨_, _, _, rfl⟩
theorem t1_bad {ps : List Pl} (hl : ps.length = 1) {j : Nat} (h : j < ps.length) (hb : ps[j].mayB = false) : tWork1 ps = (1, false) := by
  match ps, hl with
  | [p], _ =>
    have : j = 0 := by simp at h; omega
    subst this
    unfold tWork1
    simp only [List.getElem_cons_zero] at hb
    simp [hb]
theorem t1_good {ps : List Pl} (hl : ps.length = 1) (h : ∀ j (h : j < ps.length), ps[j].mayB = true) : tWork1 ps = tDo1 (ps[0]'(by omega)).toVl := by
  match ps, hl with
  | [p], _ =>
    have := h 0 (by simp)
    unfold tWork1
    simp only [List.getElem_cons_zero] at this
    simp [this]
theorem t2_bad {ps : List Pl} (hl : ps.length = 2) {j : Nat} (h : j < ps.length) (hb : ps[j].mayB = false) : tWork2 ps = (1, false) := by
  match ps, hl with
  | [p, q], _ =>
    have hj : j = 0 ∨ j = 1 := by simp at h; omega
    unfold tWork2
    rcases hj with rfl | rfl
    · simp only [List.getElem_cons_zero] at hb; simp [hb]
    · simp only [List.getElem_cons_succ, List.getElem_cons_zero] at hb; simp [hb]
theorem t2_good {ps : List Pl} (hl : ps.length = 2) (h : ∀ j (h : j < ps.length), ps[j].mayB = true) : tWork2 ps = tDo2 (ps[0]'(by omega)).toVl (ps[1]'(by omega)).toVl := by
  match ps, hl with
  | [p, q], _ =>
    have h0 := h 0 (by simp)
    have h1 := h 1 (by simp)
    unfold tWork2
    simp only [List.getElem_cons_zero, List.getElem_cons_succ] at h0 h1
    simp [h0, h1]
set_option maxRecDepth 100000 in
set_option maxHeartbeats 8000000 in
theorem truth_Work_not (ps : List Pl) (A : Option Addr) (c : Nat) (w : World) (hlen : ps.length * 56 ≤ 140737488351232) (hl : Pls.lies w w.heap.size ps A) :
    Calls Tryz.prog 17 #[.string tNot, .slice A ps.length c] w (Bel (tOut (tWork1 ps)) w) := by
  have hmm := @run_makeMap Tryz.prog
  have hk := run_look_hit (P := Tryz.prog) (T := 78) (K := 9) (E := 3) (r := w.heap.size) (es := tTab) (c := 2) (s := tNot) (w := w.alloc (.map tTab 2)) Tryz.underlying78 Tryz.underlying9 (heap_alloc_new w _) t_not
  have HB0 := Lib.hid ((Below.refl w.heap.size w).alloc (Nat.le_refl _) (.map tTab 2))
  unfold tTab tNot tSame at hk
  unfold tTab tNot tSame at HB0
  obtain ⟨i0, hi, hz0, hz1, hz2⟩ := info_parts info_val
  have HL := Lib.hid hl
  clear hl
  by_cases hcount : ¬ ps.length = 1
  · have hr := Lib.hid (show tOut (tWork1 ps) = .tuple #[.nilIface, .int .i64 11, .string ⟨#[]⟩] by
      unfold tWork1
      split
      · exact absurd rfl hcount
      · rfl)
    have hne : ((ps.length : Int) == 1) = false := by simp; omega
    clear hcount
    unfold tNot
    go_enter Tryz.func17, Tryz.ntmps17
    go_wp2_with (refine wpList_insert_new _ rfl 78 9 3 _ _ _ rfl Tryz.underlying78 Tryz.underlying9 _ _ _ rfl rfl (by kernel_rfl) ?_)
    go_ret3
    exact ⟨by rw [hr.out]; rfl, HB0.out⟩
  rw [Classical.not_not] at hcount
  have HCN := Lib.hid hcount
  have heq : ((ps.length : Int) == 1) = true := by simp; omega
  unfold tNot
  go_enter Tryz.func17, Tryz.ntmps17
  go_wp2_with (refine wpList_insert_new _ rfl 78 9 3 _ _ _ rfl Tryz.underlying78 Tryz.underlying9 _ _ _ rfl rfl (by kernel_rfl) ?_)
  clear heq hk hmm
  go_loopw [8, 27] (fun s8 s27 wr => ∃ (k : Nat) (us : List Value), k ≤ ps.length ∧ s27 = .int .i64 (k : Int) ∧ us.length = k ∧ wr.ownsRow w.heap.size 37 1 s8 k us ∧
      (∀ j (h : j < ps.length) (h' : j < us.length), ps[j].toVl.is wr (fun b => (w.heap.size ≤ b ∧ b < wr.heap.size) ∧ s8.ownBlock ≠ some b) us[j]) ∧ (∀ j (h : j < ps.length), j < k → ps[j].mayB = true) ∧ Below w.heap.size w wr) (fun _ s27 _ => ps.length - (intOf s27).toNat)
  case atStart => exact ⟨0, [], Nat.zero_le _, rfl, rfl, World.ownsRow_nil _ _ _ _, fun j h h' => absurd h' (by simp), fun j h h' => absurd h' (by omega), HB0.out⟩
  case round =>
    obtain ⟨k, us, hk, rfl, hus, hown, hel, hok, hbel⟩ := hrel
    have HE := Lib.hid hel
    have HU := Lib.hid hus
    have HK := Lib.hid hok
    have HBL := Lib.hid hbel
    have HO := Lib.hid hown
    have hsz := hbel.size
    clear hus hbel hok hown hcount
    by_cases hlt : k < ps.length
    · clear hel
      have hlt1 : k < 1 := by have := HCN.out; omega
      obtain ⟨b', o', rfl⟩ := HL.out.head (by omega)
      have hlies := ((HL.out.below HBL.out (Nat.le_refl _)).at_ k hlt)
      have hsn := Lib.hid hlies.sane
      obtain ⟨hbb, e0, e1, e2, hlen2, A', c', e3, hll⟩ := hlies.parts
      have HX0 := Lib.hid ((Below.refl w.heap.size wr).alloc hsz (.cells #[.int .i64 ps[k].kind, .int .i64 ps[k].num, .string ps[k].text, .slice A' ps[k].list.length c'] 34))
      have HX1 := Lib.hid ((Below.refl wr.heap.size wr).alloc (Nat.le_refl _) (.cells #[.int .i64 ps[k].kind, .int .i64 ps[k].num, .string ps[k].text, .slice A' ps[k].list.length c'] 34))
      have KO := Lib.hid (worth_Of ps[k] A' c' (wr.alloc (.cells #[.int .i64 ps[k].kind, .int .i64 ps[k].num, .string ps[k].text, .slice A' ps[k].list.length c'] 34)) hsn.out (hll.below HX0.out (by rw [size_alloc]; omega)))
      unfold WOfPost Pl.arg at KO
      clear hll hlies
      go_wp2_with fail
      refine KO.out.mono ?_
      rintro e w2 (⟨hm, v, rfl, hv, hb2⟩ | ⟨hm, rfl, hb2⟩)
      · obtain ⟨vt, vx, rfl⟩ := hv.iface
        have HV := Lib.hid hv
        have HB2 := Lib.hid hb2
        have HM := Lib.hid hm
        have hs2 := hb2.size
        rw [size_alloc] at hs2
        have hone := one_new w2 (.iface vt vx) 37
        have hown3 := own_below (HO.out.alloc (.cells #[.int .i64 ps[k].kind, .int .i64 ps[k].num, .string ps[k].text, .slice A' ps[k].list.length c'] 34)) HB2.out
        clear hv hb2 hm e0 e1 e2 e3 KO
        go_wp2_with (at_builtin; refine wpList_append_own_at _ rfl _ _ 79 rfl w.heap.size 37 i0 .nilIface 1 16 Tryz.underlying79 hi hz0 hz1 hz2 rfl (by decide) _ _ _ rfl (hown3.alloc _) ⟨w2.heap.size, 0, none⟩ 1 1 [.iface vt vx] rfl rfl hone (by intro u hu; simp at hu; subst hu; rfl) (by unfold maxLen; omega) (by omega) (by simp; omega) ?_)
        intro v' w4 hown4 hgr4 _ hblk
        have hel4 := val_step hlt HU.out HO.out (Below.refl _ _) HB2.out hgr4 (by rw [size_alloc]; exact hblk) HE.out HV.out hsz
        have hs4 := hgr4.size
        rw [size_alloc] at hs4
        have hb4 : Below w.heap.size w w4 := (((HBL.out.alloc hsz _).trans (HB2.out.mono (by rw [size_alloc]; omega))).alloc (by omega) _).grown hgr4 (by rw [size_alloc]; omega) (fun g hg => (HO.out.lt g hg).1)
        have hok4 : ∀ j (h : j < ps.length), j < k + 1 → ps[j].mayB = true := fun j h hj => by
          by_cases e : j = k
          · subst e; exact HM.out
          · exact HK.out j h (by omega)
        have hlen4 : (us ++ [Value.iface vt vx]).length = k + 1 := by simp [HU.out]
        have H1 := Lib.hid hel4
        have H2 := Lib.hid hb4
        have H3 := Lib.hid hok4
        have H4 := Lib.hid hlen4
        have H5 := Lib.hid hown4
        clear hel4 hb4 hok4 hlen4 hown4 hgr4 hblk hown3 hone
        go_wp2
        go_roundw
        case rel => exact ⟨k + 1, us ++ [.iface vt vx], by omega, by go_num, H4.out, H5.out, H1.out, H3.out, H2.out⟩
        case measure => simp [intOf]; omega
      · have hr := Lib.hid (show tOut (tWork1 ps) = .tuple #[.nilIface, .int .i64 1, .string ⟨#[]⟩] by rw [t1_bad HCN.out hlt hm]; rfl)
        have HB3 := Lib.hid ((HBL.out.alloc hsz _).trans (hb2.mono (by rw [size_alloc]; omega)))
        clear hb2 hm KO e0 e1 e2 e3
        go_wp2
        go_ret3
        exact ⟨by rw [hr.out]; rfl, HB3.out⟩
    · have hkm : k = 1 := by have := HCN.out; omega
      subst hkm
      have hul := HU.out
      have hr := Lib.hid (t1_good HCN.out (fun j h => HK.out j h (by have := HCN.out; omega)))
      have hcn := HCN.out
      obtain ⟨g, cap, hs8⟩ : ∃ g cap, u8 = Value.slice (some ⟨g, 0, none⟩) 1 cap := by
        rcases HO.out.2 with ⟨_, h2⟩ | ⟨g, cap, cur, e, _⟩
        · exact absurd h2 (by decide)
        · exact ⟨g, cap, e⟩
      subst hs8
      have KD := Lib.hid (truth_Do1 (b := g) (o := 0) (c := cap) (w := wr) (hel 0 (by omega) (by omega)) (by have := HO.out.cellAt 0 (by omega); rw [this, List.getElem?_eq_getElem]))
      obtain ⟨a, n, s, hg⟩ := tOut_parts (tDo1 (ps[0]).toVl)
      unfold tNot at KD
      rw [hg] at KD
      have HG := Lib.hid hg
      clear hel hg
      go_wp2_with fail
      refine KD.out.mono ?_
      rintro e w3 ⟨rfl, hb3⟩
      have HB3 := Lib.hid (HBL.out.trans (hb3.mono hsz))
      clear hb3
      go_wp2
      go_ret3
      exact ⟨by rw [hr.out, HG.out]; rfl, HB3.out⟩
set_option maxRecDepth 100000 in
set_option maxHeartbeats 8000000 in
theorem truth_Work_same (ps : List Pl) (A : Option Addr) (c : Nat) (w : World) (hlen : ps.length * 56 ≤ 140737488351232) (hl : Pls.lies w w.heap.size ps A) :
    Calls Tryz.prog 17 #[.string tSame, .slice A ps.length c] w (Bel (tOut (tWork2 ps)) w) := by
  have hmm := @run_makeMap Tryz.prog
  have hk := run_look_hit (P := Tryz.prog) (T := 78) (K := 9) (E := 3) (r := w.heap.size) (es := tTab) (c := 2) (s := tSame) (w := w.alloc (.map tTab 2)) Tryz.underlying78 Tryz.underlying9 (heap_alloc_new w _) t_same
  have HB0 := Lib.hid ((Below.refl w.heap.size w).alloc (Nat.le_refl _) (.map tTab 2))
  unfold tTab tNot tSame at hk
  unfold tTab tNot tSame at HB0
  obtain ⟨i0, hi, hz0, hz1, hz2⟩ := info_parts info_val
  have HL := Lib.hid hl
  have HFN := Lib.hid (fun j (h : j < ps.length) => show ps[j].toVl.fine by
    obtain ⟨b1, o1, e1⟩ := hl.head (by omega)
    subst e1
    exact (hl.at_ j h).fine)
  clear hl
  by_cases hcount : ¬ ps.length = 2
  · have hr := Lib.hid (show tOut (tWork2 ps) = .tuple #[.nilIface, .int .i64 11, .string ⟨#[]⟩] by
      unfold tWork2
      split
      · exact absurd rfl hcount
      · rfl)
    have hne : ((ps.length : Int) == 2) = false := by simp; omega
    clear hcount
    unfold tSame
    go_enter Tryz.func17, Tryz.ntmps17
    go_wp2_with (refine wpList_insert_new _ rfl 78 9 3 _ _ _ rfl Tryz.underlying78 Tryz.underlying9 _ _ _ rfl rfl (by kernel_rfl) ?_)
    go_ret3
    exact ⟨by rw [hr.out]; rfl, HB0.out⟩
  rw [Classical.not_not] at hcount
  have HCN := Lib.hid hcount
  have heq : ((ps.length : Int) == 2) = true := by simp; omega
  unfold tSame
  go_enter Tryz.func17, Tryz.ntmps17
  go_wp2_with (refine wpList_insert_new _ rfl 78 9 3 _ _ _ rfl Tryz.underlying78 Tryz.underlying9 _ _ _ rfl rfl (by kernel_rfl) ?_)
  clear heq hk hmm
  go_loopw [8, 27] (fun s8 s27 wr => ∃ (k : Nat) (us : List Value), k ≤ ps.length ∧ s27 = .int .i64 (k : Int) ∧ us.length = k ∧ wr.ownsRow w.heap.size 37 1 s8 k us ∧
      (∀ j (h : j < ps.length) (h' : j < us.length), ps[j].toVl.is wr (fun b => (w.heap.size ≤ b ∧ b < wr.heap.size) ∧ s8.ownBlock ≠ some b) us[j]) ∧ (∀ j (h : j < ps.length), j < k → ps[j].mayB = true) ∧ Below w.heap.size w wr) (fun _ s27 _ => ps.length - (intOf s27).toNat)
  case atStart => exact ⟨0, [], Nat.zero_le _, rfl, rfl, World.ownsRow_nil _ _ _ _, fun j h h' => absurd h' (by simp), fun j h h' => absurd h' (by omega), HB0.out⟩
  case round =>
    obtain ⟨k, us, hk, rfl, hus, hown, hel, hok, hbel⟩ := hrel
    have HE := Lib.hid hel
    have HU := Lib.hid hus
    have HK := Lib.hid hok
    have HBL := Lib.hid hbel
    have HO := Lib.hid hown
    have hsz := hbel.size
    clear hus hbel hok hown hcount
    by_cases hlt : k < ps.length
    · clear hel
      have hlt1 : k < 2 := by have := HCN.out; omega
      obtain ⟨b', o', rfl⟩ := HL.out.head (by omega)
      have hlies := ((HL.out.below HBL.out (Nat.le_refl _)).at_ k hlt)
      have hsn := Lib.hid hlies.sane
      obtain ⟨hbb, e0, e1, e2, hlen2, A', c', e3, hll⟩ := hlies.parts
      have HX0 := Lib.hid ((Below.refl w.heap.size wr).alloc hsz (.cells #[.int .i64 ps[k].kind, .int .i64 ps[k].num, .string ps[k].text, .slice A' ps[k].list.length c'] 34))
      have HX1 := Lib.hid ((Below.refl wr.heap.size wr).alloc (Nat.le_refl _) (.cells #[.int .i64 ps[k].kind, .int .i64 ps[k].num, .string ps[k].text, .slice A' ps[k].list.length c'] 34))
      have KO := Lib.hid (worth_Of ps[k] A' c' (wr.alloc (.cells #[.int .i64 ps[k].kind, .int .i64 ps[k].num, .string ps[k].text, .slice A' ps[k].list.length c'] 34)) hsn.out (hll.below HX0.out (by rw [size_alloc]; omega)))
      unfold WOfPost Pl.arg at KO
      clear hll hlies
      go_wp2_with fail
      refine KO.out.mono ?_
      rintro e w2 (⟨hm, v, rfl, hv, hb2⟩ | ⟨hm, rfl, hb2⟩)
      · obtain ⟨vt, vx, rfl⟩ := hv.iface
        have HV := Lib.hid hv
        have HB2 := Lib.hid hb2
        have HM := Lib.hid hm
        have hs2 := hb2.size
        rw [size_alloc] at hs2
        have hone := one_new w2 (.iface vt vx) 37
        have hown3 := own_below (HO.out.alloc (.cells #[.int .i64 ps[k].kind, .int .i64 ps[k].num, .string ps[k].text, .slice A' ps[k].list.length c'] 34)) HB2.out
        clear hv hb2 hm e0 e1 e2 e3 KO
        go_wp2_with (at_builtin; refine wpList_append_own_at _ rfl _ _ 79 rfl w.heap.size 37 i0 .nilIface 1 16 Tryz.underlying79 hi hz0 hz1 hz2 rfl (by decide) _ _ _ rfl (hown3.alloc _) ⟨w2.heap.size, 0, none⟩ 1 1 [.iface vt vx] rfl rfl hone (by intro u hu; simp at hu; subst hu; rfl) (by unfold maxLen; omega) (by omega) (by simp; omega) ?_)
        intro v' w4 hown4 hgr4 _ hblk
        have hel4 := val_step hlt HU.out HO.out (Below.refl _ _) HB2.out hgr4 (by rw [size_alloc]; exact hblk) HE.out HV.out hsz
        have hs4 := hgr4.size
        rw [size_alloc] at hs4
        have hb4 : Below w.heap.size w w4 := (((HBL.out.alloc hsz _).trans (HB2.out.mono (by rw [size_alloc]; omega))).alloc (by omega) _).grown hgr4 (by rw [size_alloc]; omega) (fun g hg => (HO.out.lt g hg).1)
        have hok4 : ∀ j (h : j < ps.length), j < k + 1 → ps[j].mayB = true := fun j h hj => by
          by_cases e : j = k
          · subst e; exact HM.out
          · exact HK.out j h (by omega)
        have hlen4 : (us ++ [Value.iface vt vx]).length = k + 1 := by simp [HU.out]
        have H1 := Lib.hid hel4
        have H2 := Lib.hid hb4
        have H3 := Lib.hid hok4
        have H4 := Lib.hid hlen4
        have H5 := Lib.hid hown4
        clear hel4 hb4 hok4 hlen4 hown4 hgr4 hblk hown3 hone
        go_wp2
        go_roundw
        case rel => exact ⟨k + 1, us ++ [.iface vt vx], by omega, by go_num, H4.out, H5.out, H1.out, H3.out, H2.out⟩
        case measure => simp [intOf]; omega
      · have hr := Lib.hid (show tOut (tWork2 ps) = .tuple #[.nilIface, .int .i64 1, .string ⟨#[]⟩] by rw [t2_bad HCN.out hlt hm]; rfl)
        have HB3 := Lib.hid ((HBL.out.alloc hsz _).trans (hb2.mono (by rw [size_alloc]; omega)))
        clear hb2 hm KO e0 e1 e2 e3
        go_wp2
        go_ret3
        exact ⟨by rw [hr.out]; rfl, HB3.out⟩
    · have hkm : k = 2 := by have := HCN.out; omega
      subst hkm
      have hul := HU.out
      have hr := Lib.hid (t2_good HCN.out (fun j h => HK.out j h (by have := HCN.out; omega)))
      have hcn := HCN.out
      obtain ⟨g, cap, hs8⟩ : ∃ g cap, u8 = Value.slice (some ⟨g, 0, none⟩) 2 cap := by
        rcases HO.out.2 with ⟨_, h2⟩ | ⟨g, cap, cur, e, _⟩
        · exact absurd h2 (by decide)
        · exact ⟨g, cap, e⟩
      subst hs8
      have KD := Lib.hid (truth_Do2 (b := g) (o := 0) (c := cap) (w := wr) (hel 0 (by omega) (by omega)) (by have := HO.out.cellAt 0 (by omega); rw [this, List.getElem?_eq_getElem]) (hel 1 (by omega) (by omega)) (by have := HO.out.cellAt 1 (by omega); rw [Nat.zero_add, this, List.getElem?_eq_getElem]) (fun b h => h.1.2) (fun b h => h.1.2) (HFN.out 0 (by omega)) (HFN.out 1 (by omega)))
      obtain ⟨a, n, s, hg⟩ := tOut_parts (tDo2 (ps[0]).toVl (ps[1]).toVl)
      unfold tSame at KD
      rw [hg] at KD
      have HG := Lib.hid hg
      clear hel hg
      go_wp2_with fail
      refine KD.out.mono ?_
      rintro e w3 ⟨rfl, hb3⟩
      have HB3 := Lib.hid (HBL.out.trans (hb3.mono hsz))
      clear hb3
      go_wp2
      go_ret3
      exact ⟨by rw [hr.out, HG.out]; rfl, HB3.out⟩
end Go.Proofs.YtjdpnljaichdmaaGreatDoor
