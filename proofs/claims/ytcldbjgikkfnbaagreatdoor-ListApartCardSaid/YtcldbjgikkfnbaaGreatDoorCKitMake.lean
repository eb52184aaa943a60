/-
  Texts of a proof in one: KitMake, LawMade, LawMade11. Conditions: each names its own.
-/
import Derived.Test.YtcldbjgikkfnbaaGreatDoorCNodeBase
import Derived.Deep.RegionHeld3
/-
  kit.Make of a node that fits its row: a walk. Conditions: the maker gives what the row says.
-/
namespace Go.Proofs.YtcldbjgikkfnbaaGreatDoor
open Go.RowKit
set_option linter.unusedVariables false

def MakePost (kind text : ByteArray) (vs : List Value) (T : TypeId) (w : World) (e : Ending) (w' : World) : Prop :=
  ∃ (k : Kd) (nb : Nat), e = .returned (.tuple #[.pointer (some ⟨k.blk, 0, none⟩), .nilIface]) ∧ w.heap.size ≤ k.blk ∧ k.n = .iface T (.pointer (some ⟨nb, 0, none⟩)) ∧ k.at_ w' ∧ NodeAt w' (· < w'.heap.size) nb kind text vs (extra T text) ∧ Below w.heap.size w w'
/-- What 'Make' wants of a row, a text, kids, a maker. -/
structure MakeOk (r : RowD) (s : ByteArray) (ks : List Kd) (f : FuncId) (T : TypeId) (B : Nat → Bool) : Prop where
  row : r.ok
  abil : 0 < r.abil.length ∧ r.abil.length ≤ 1000
  text : textB r s = true
  size : s.size ≤ 16384
  many : ks.length ≤ 1000
  min_ : r.min ≤ (ks.length : Int)
  max_ : r.max = -1 ∨ (ks.length : Int) ≤ r.max
  call : ∀ (args : Array Value) (w : World), (callFunc f args).run Tryz.prog w = .ok (.enter f args) w
  makes : Makes f r.kind s ks T
  disp : Disp T
  looks : ∀ nb, Looks T (.pointer (some ⟨nb, 0, none⟩)) B
  told : abilTo B 14 = r.abil
  same : ∀ k ∈ ks, SameKid k

theorem abil_own (w : World) : (w.alloc (.cells abilCells 9)).ownsRow w.heap.size 9 1 (.slice (some ⟨w.heap.size, 0, none⟩) 11 11) 11 (allAbil.map Value.string) :=
  ⟨rfl, .inr ⟨w.heap.size, 11, abilCells, rfl, Nat.le_refl _, heap_alloc_new _ _, Nat.le_refl _, by decide, rfl, rfl⟩⟩
def names14 : List ByteArray := allAbil ++ [⟨#[87, 114, 97, 112, 112, 101, 100]⟩, ⟨#[79, 114, 105, 103, 105, 110]⟩, ⟨#[79, 112, 97, 113, 117, 101]⟩]
theorem names14_at : ∀ j, j < 14 → (allAbil.map Value.string ++ [Value.string ⟨#[87, 114, 97, 112, 112, 101, 100]⟩, .string ⟨#[79, 114, 105, 103, 105, 110]⟩, .string ⟨#[79, 112, 97, 113, 117, 101]⟩])[j]? = some (.string (names14.getD j ByteArray.empty))
  | 0, _ => rfl
  | 1, _ => rfl
  | 2, _ => rfl
  | 3, _ => rfl
  | 4, _ => rfl
  | 5, _ => rfl
  | 6, _ => rfl
  | 7, _ => rfl
  | 8, _ => rfl
  | 9, _ => rfl
  | 10, _ => rfl
  | 11, _ => rfl
  | 12, _ => rfl
  | 13, _ => rfl
  | n + 14, h => absurd h (by omega)
theorem three_news (w : World) (o : Obj) (a b c : Value) : ∀ (j : Nat) (u : Value), [a, b, c][j]? = some u → ((w.alloc o).alloc (.cells #[a, b, c] 9)).cell? ((⟨w.heap.size + 1, 0, none⟩ : Addr).add j) = some u := by
  intro j u hj
  have hx := (heap_alloc2 w o (.cells #[a, b, c] 9)).2
  have e : (⟨w.heap.size + 1, 0, none⟩ : Addr).add j = ⟨w.heap.size + 1, j, none⟩ := by unfold Addr.add; split <;> simp_all
  rw [e]
  simp only [World.cell?, hx]
  simpa using hj
set_option maxRecDepth 100000 in
set_option maxHeartbeats 8000000 in
theorem kit_Make {w : World} {M KB : Nat} {name v : ByteArray} {vv : Value} {ts : List RowAt} {f : FuncId} (h : KitIn w M KB name (.func (.func f) #[] #[]) vv ts) (hlen : ts.length ≤ 1000000) (k : Nat) (hk : k < ts.length) (hdis : ∀ j (h : j < k), (ts[j]'(by omega)).row.kind ≠ ts[k].row.kind)
    {s : ByteArray} {ks : List Kd} {T : TypeId} {B : Nat → Bool} (hm : MakeOk ts[k].row s ks f T B) (Tk : Value) (hT : ∃ A0 n0 c0, Tk = .slice A0 n0 c0) (A : Option Addr) (c : Nat) (h0 : ks = [] → A = none ∧ c = 0) (hks : KidsIn w ks A) :
    Calls Tryz.prog 39 #[.pointer (some ⟨KB, 0, none⟩), .agg #[.string ts[k].row.kind, .int .i64 0, .string s, Tk], .slice A ks.length c] w (MakePost ts[k].row.kind s (ks.map Kd.n) T w) := by
  obtain ⟨A0, n0, c0, rfl⟩ := hT
  have HM := Lib.hid hm
  have HK0 := Lib.hid hks
  have HZ := Lib.hid h0
  have H1 := Lib.hid ((Below.refl w.heap.size w).alloc (Nat.le_refl _) (.cells #[.string ts[k].row.kind, .int .i64 0, .string s, .slice A0 n0 c0] 65))
  have hx0 := heap_alloc_new w (.cells #[.string ts[k].row.kind, .int .i64 0, .string s, .slice A0 n0 c0] 65)
  have KR := Lib.hid (kit_Row (h.below H1.out) hlen k hk ⟨hm.abil.1, by have := hm.abil.2; omega⟩ hdis)
  have hc3 : w.cell? ⟨KB, 3, none⟩ = some (.func (.func f) #[] #[]) := by simp [World.cell?, h.kit]
  have hKBw := World.block_lt_of_cell? _ _ hc3
  have HC3 := Lib.hid hc3
  have HX0 := Lib.hid hx0
  have hsz1 := size_alloc w (.cells #[.string ts[k].row.kind, .int .i64 0, .string s, .slice A0 n0 c0] 65)
  have hmany := hm.many
  clear hdis h hm hks h0 hc3 hx0
  generalize ts[k].row = r at *
  unfold RowPost RowD.val at KR
  go_enter Tryz.func39, Tryz.ntmps39
  go_wp2_with fail
  refine KR.out.mono ?_
  rintro e w2 ⟨A1, c1, rfl, hnm, hb2⟩
  have HN2 := Lib.hid hnm
  have H2 := Lib.hid (H1.out.trans (hb2.mono H1.out.size))
  have HX2 := Lib.hid ((hb2.block w.heap.size (by rw [hsz1]; omega)).trans HX0.out)
  have hl2 := lt_of_block HX2.out
  have HRX := Lib.hid (heap_alloc_new w2 (.cells #[.string r.kind, .int .i64 r.min, .int .i64 r.max, .bool r.num, .int .i64 r.text, .slice A1 r.abil.length c1] 123))
  have H3 := Lib.hid (H2.out.alloc H2.out.size (.cells #[.string r.kind, .int .i64 r.min, .int .i64 r.max, .bool r.num, .int .i64 r.text, .slice A1 r.abil.length c1] 123))
  have HX3 := Lib.hid ((Below.heap_alloc w2 (.cells #[.string r.kind, .int .i64 r.min, .int .i64 r.max, .bool r.num, .int .i64 r.text, .slice A1 r.abil.length c1] 123) _ hl2).trans HX2.out)
  have hs3 := size_alloc w2 (.cells #[.string r.kind, .int .i64 r.min, .int .i64 r.max, .bool r.num, .int .i64 r.text, .slice A1 r.abil.length c1] 123)
  have HN3 := Lib.hid (HN2.out.keep (fun b o hb => World.cell?_alloc_lt w2 (.cells #[.string r.kind, .int .i64 r.min, .int .i64 r.max, .bool r.num, .int .i64 r.text, .slice A1 r.abil.length c1] 123) ⟨b, o, none⟩ hb) (fun b hb => hb))
  clear hnm hb2 KR H1 HX0 hsz1
  go_wp2
  generalize w2.alloc (.cells #[.string r.kind, .int .i64 r.min, .int .i64 r.max, .bool r.num, .int .i64 r.text, .slice A1 r.abil.length c1] 123) = w3 at *
  clear HX2 H2 HN2
  generalize w2.heap.size = R at *
  go_loopw [32] (fun s32 wr => ∃ (j : Nat), j ≤ ks.length ∧ s32 = .int .i64 (j : Int) ∧ wr = w3) (fun s32 _ => ks.length - (intOf s32).toNat)
  case atStart => exact ⟨0, Nat.zero_le _, rfl, rfl⟩
  case round =>
    obtain ⟨j, hj, rfl, rfl⟩ := hrel
    by_cases hlt : j < ks.length
    · have hk3 := HK0.out.below H3.out
      obtain ⟨b, o, rfl, hbb, hc⟩ := hk3.1 (by simp; omega)
      have e0 : wr.cell? ⟨b, o + j, none⟩ = some (.pointer (some ⟨ks[j].blk, 0, none⟩)) := hc j _ (by simp [hlt, Kd.ptr])
      have hkd := hk3.2 ks[j] (List.getElem_mem hlt)
      obtain ⟨T1, p1, hn1⟩ := hkd.2
      have KN := Lib.hid (node_Node ks[j] wr hkd)
      rw [hn1] at KN
      clear hc hkd hn1 hk3
      generalize ks[j].blk = kb at *
      go_wp2_with (go_at_call 40; refine KN.out.mono ?_; rintro e w4 ⟨rfl, rfl⟩)
      go_roundw
      case rel => exact ⟨j + 1, by omega, by go_num, trivial⟩
      case measure => simp [intOf]; omega
    · have r3 := fun i => show wr.cell? ⟨R, i, none⟩ = (#[.string r.kind, .int .i64 r.min, .int .i64 r.max, .bool r.num, .int .i64 r.text, .slice A1 r.abil.length c1] : Array Value)[i]? by simp [World.cell?, HRX.out]
      have t3 := fun i => show wr.cell? ⟨w.heap.size, i, none⟩ = (#[.string r.kind, .int .i64 0, .string s, .slice A0 n0 c0] : Array Value)[i]? by simp [World.cell?, HX3.out]
      have KF := Lib.hid (kit_fits r HM.out.row s HM.out.text HM.out.size ks.length HM.out.min_ HM.out.max_ A1 c1 (.slice A0 n0 c0) ⟨_, _, _, rfl⟩ wr (HN3.out.keep (fun _ _ _ => rfl) (fun b hb => by rw [hs3]; exact Nat.lt_succ_of_lt hb)))
      unfold RowD.val at KF
      go_wp2_with fail
      refine KF.out.mono ?_
      rintro e w5 ⟨rfl, hb5⟩
      have H5 := Lib.hid (H3.out.trans (hb5.mono H3.out.size))
      have HX5 := Lib.hid ((hb5.block _ (lt_of_block HX3.out)).trans HX3.out)
      have HRX5 := Lib.hid ((hb5.block _ (lt_of_block HRX.out)).trans HRX.out)
      have HN5 := Lib.hid (HN3.out.keep (fun b o hb => hb5.cell (p := ⟨b, o, none⟩) (show b < wr.heap.size by rw [hs3]; exact Nat.lt_succ_of_lt hb)) (fun b hb => hb))
      have hs5 := hb5.size
      clear hb5 r3 t3 KF HX3 HRX HN3 H3
      have e0 : w5.cell? ⟨w.heap.size, 0, none⟩ = some (.string r.kind) := by simp [World.cell?, HX5.out]
      have e1 : w5.cell? ⟨w.heap.size, 1, none⟩ = some (.int .i64 0) := by simp [World.cell?, HX5.out]
      have e2 : w5.cell? ⟨w.heap.size, 2, none⟩ = some (.string s) := by simp [World.cell?, HX5.out]
      have e3 : w5.cell? ⟨w.heap.size, 3, none⟩ = some (.slice A0 n0 c0) := by simp [World.cell?, HX5.out]
      have hwl := lt_of_block HX5.out
      have hks1 : ks.length ≤ 100000 := by omega
      have KC := Lib.hid (clone_kids ks A c w5.drew hks1 HZ.out ((HK0.out.below H5.out).below (Below.refl w5.heap.size w5).drew))
      go_wp2
      go_region_held3 (fun w' => w'.cell? ⟨w.heap.size, 0, none⟩ = some (.string r.kind) ∧ w'.cell? ⟨w.heap.size, 1, none⟩ = some (.int .i64 0) ∧ w'.cell? ⟨w.heap.size, 2, none⟩ = some (.string s) ∧ w'.cell? ⟨w.heap.size, 3, none⟩ = some (.slice A0 n0 c0))
        (first | exact ⟨e0, e1, e2, e3⟩ | exact ⟨d0, d1, d2, d3⟩ | exact ⟨c0', c1', c2', c3'⟩)
        (first
          | ((go_at_call 76; refine KC.out.mono ?_; rintro e w6 ⟨A6, c6, rfl, hk6, hb6⟩; have d0 := (hb6.cell (p := ⟨w.heap.size, 0, none⟩) hwl).trans e0; have d1 := (hb6.cell (p := ⟨w.heap.size, 1, none⟩) hwl).trans e1; have d2 := (hb6.cell (p := ⟨w.heap.size, 2, none⟩) hwl).trans e2; have d3 := (hb6.cell (p := ⟨w.heap.size, 3, none⟩) hwl).trans e3; have HK6 := Lib.hid hk6; have hb56 : Below w5.heap.size w5 w6 := ⟨hb6.os, hb6.tape, hb6.output, hb6.size, hb6.block⟩; have H6 := Lib.hid (H5.out.trans (hb56.mono H5.out.size)); have HB56 := Lib.hid hb56; have hs6 := hb56.size; have KM := Lib.hid (kit_made (KB := KB) (HC3.out |> (H6.out.cell (p := ⟨KB, 3, none⟩) hKBw).trans) HM.out.call HM.out.makes (.slice A0 n0 c0) ⟨_, _, _, rfl⟩ A6 c6 hk6); clear hk6 hb6 hb56))
          | ((go_at_call 75; refine KM.out.mono ?_; rintro e w7 ⟨kd, nb, rfl, hkb, hkn, hka, hno, hb7⟩; have c0' := (hb7.cell (p := ⟨w.heap.size, 0, none⟩) (by dsimp only; omega)).trans d0; have c1' := (hb7.cell (p := ⟨w.heap.size, 1, none⟩) (by dsimp only; omega)).trans d1; have c2' := (hb7.cell (p := ⟨w.heap.size, 2, none⟩) (by dsimp only; omega)).trans d2; have c3' := (hb7.cell (p := ⟨w.heap.size, 3, none⟩) (by dsimp only; omega)).trans d3)))
      have HB67 := Lib.hid hb7
      have H7 := Lib.hid (H6.out.trans (hb7.mono H6.out.size))
      have HX7 := Lib.hid ((HB67.out.block _ (Nat.lt_of_lt_of_le hwl hs6)).trans ((HB56.out.block _ hwl).trans HX5.out))
      have HRX7 := Lib.hid ((HB67.out.block _ (Nat.lt_of_lt_of_le (lt_of_block HRX5.out) hs6)).trans ((HB56.out.block _ (lt_of_block HRX5.out)).trans HRX5.out))
      have HB57 := Lib.hid (HB56.out.trans (HB67.out.mono HB56.out.size))
      have HN7 : Hid (NamesIn w7 (· < w7.heap.size) r.abil A1) := Lib.hid (HN5.out.keep (fun b o hb => HB57.out.cell (p := ⟨b, o, none⟩) (by have : b < R := hb; dsimp only; omega)) (fun b hb => by have : b < R := hb; have := HB57.out.size; omega))
      have HK7 := Lib.hid (HK6.out.below HB67.out)
      have HKN := Lib.hid hkn
      have HKA := Lib.hid hka
      have HNO := Lib.hid (hno.keep (S' := (· < w7.heap.size)) (fun _ _ _ => rfl) (fun b hb => hb.2))
      have HKB : Hid (w.heap.size ≤ kd.blk) := Lib.hid (Nat.le_trans (Nat.le_trans H5.out.size hs6) hkb)
      have KN := Lib.hid (node_Node kd w7 hka)
      rw [hkn] at KN
      clear e0 e1 e2 e3 d0 d1 d2 d3 c0' c1' c2' c3' hb7 hno hka hkn hkb KM KC HX5 HRX5 HN5
      generalize hkbe : kd.blk = kb at *
      have HKE := Lib.hid hkbe
      clear hkbe
      go_wp2_with (go_at_call 40; refine KN.out.mono ?_; rintro e w8 ⟨rfl, rfl⟩)
      have HNQ : ∀ n, NodeAt (w7.drewN n) (· < w7.heap.size) nb r.kind s (ks.map Kd.n) (extra T s) := fun n => HNO.out.keep (fun _ _ _ => rfl) (fun _ h => h)
      have q1 := Lib.hid (fun n => base_Kind (HNQ n))
      have q2 := Lib.hid (fun n => base_Num (HNQ n))
      have q3 := Lib.hid (fun n => base_Text (HNQ n))
      have q4 := Lib.hid (fun n => base_Len (HNQ n))
      rw [List.length_map] at q4
      have m1 := HM.out.disp.kind_ nb
      have m2 := HM.out.disp.num_ nb
      have m3 := HM.out.disp.text_ nb
      have m4 := HM.out.disp.len_ nb
      have e0 : w7.cell? ⟨w.heap.size, 0, none⟩ = some (.string r.kind) := by simp [World.cell?, HX7.out]
      have e1 : w7.cell? ⟨w.heap.size, 1, none⟩ = some (.int .i64 0) := by simp [World.cell?, HX7.out]
      have e2 : w7.cell? ⟨w.heap.size, 2, none⟩ = some (.string s) := by simp [World.cell?, HX7.out]
      have hrk : (r.kind == r.kind) = true := bytes_same _
      have hsk : (s == s) = true := bytes_same _
      clear HNQ
      go_quiet (first | exact Calls.quiet_of_same ((q1.out _).mono fun _ _ ⟨a, b⟩ => ⟨a, b.symm⟩) | exact Calls.quiet_of_same ((q2.out _).mono fun _ _ ⟨a, b⟩ => ⟨a, b.symm⟩) | exact Calls.quiet_of_same ((q3.out _).mono fun _ _ ⟨a, b⟩ => ⟨a, b.symm⟩) | exact Calls.quiet_of_same ((q4.out _).mono fun _ _ ⟨a, b⟩ => ⟨a, b.symm⟩))
      have H8 := Lib.hid (show Below w.heap.size w (w7.drewN nq) from below_drewN H7.out nq)
      have HRX8 : Hid ((w7.drewN nq).heap[R]? = some (.cells #[.string r.kind, .int .i64 r.min, .int .i64 r.max, .bool r.num, .int .i64 r.text, .slice A1 r.abil.length c1] 123)) := Lib.hid HRX7.out
      have HN8 : Hid (NamesIn (w7.drewN nq) (· < (w7.drewN nq).heap.size) r.abil A1) := Lib.hid (HN7.out.keep (fun _ _ _ => rfl) (fun _ h => h))
      have HK8 : Hid (KidsIn (w7.drewN nq) ks A) := Lib.hid (HK0.out.below H8.out)
      have HKA8 : Hid (kd.at_ (w7.drewN nq)) := Lib.hid ⟨HKA.out.1, HKA.out.2⟩
      have HNO8 : Hid (NodeAt (w7.drewN nq) (· < (w7.drewN nq).heap.size) nb r.kind s (ks.map Kd.n) (extra T s)) := Lib.hid (HNO.out.keep (fun _ _ _ => rfl) (fun _ h => h))
      clear q1 q2 q3 q4 m1 m2 m3 m4 e0 e1 e2 hrk hsk KN HX7 HRX7 HN7 HK7 HNO HKA H7 HB67 HB57 HB56 H6 H5 HK6
      generalize w7.drewN nq = w8 at *
      go_wp2
      go_loopw [98, 15, 16] (fun s98 _ _ wr => ∃ (j : Nat), j ≤ ks.length ∧ s98 = .int .i64 (j : Int) ∧ w8 = wr) (fun s98 _ _ _ => ks.length - (intOf s98).toNat)
      case atStart => exact ⟨0, Nat.zero_le _, rfl, rfl⟩
      case round =>
        obtain ⟨i, hi, rfl, hw8⟩ := hrel
        subst hw8
        by_cases hlt2 : i < ks.length
        · obtain ⟨b, o, rfl, hbb, hc⟩ := HK8.out.1 (by simp; omega)
          have e0 : w8.cell? ⟨b, o + i, none⟩ = some (.pointer (some ⟨ks[i].blk, 0, none⟩)) := hc i _ (by simp [hlt2, Kd.ptr])
          have hkd := HK8.out.2 ks[i] (List.getElem_mem hlt2)
          have KN := Lib.hid (node_Node ks[i] w8 hkd)
          have KI := Lib.hid (base_Kid HNO8.out i (by simpa using hlt2))
          rw [List.getElem_map] at KI
          have hsm := (HM.out.same ks[i] (List.getElem_mem hlt2)).1
          have hsg := (HM.out.same ks[i] (List.getElem_mem hlt2)).2
          have m5 := HM.out.disp.kid_ nb
          clear hc hkd
          generalize ks[i].blk = kb2 at *
          generalize ks[i].n = kn2 at *
          go_wp2_with (first | (go_at_call 40; refine KN.out.mono ?_; rintro e w9 ⟨rfl, rfl⟩) | (go_at_call 183; refine KI.out.mono ?_; rintro e w9 ⟨rfl, rfl⟩))
          go_roundw
          case rel => exact ⟨i + 1, by omega, by go_num, trivial⟩
          case measure => simp [intOf]; omega
        · have KA := Lib.hid (node_Abilities kd T _ HKN.out B (HM.out.looks nb) w8 HKA8.out)
          unfold AbilPost Kd.ptr at KA
          rw [HM.out.told] at KA
          rw [HKE.out] at KA
          go_wp2_with fail
          refine KA.out.mono ?_
          rintro e w9 ⟨A9, c9, rfl, hn9, hb9⟩
          have HN9 := Lib.hid hn9
          have HB9 := Lib.hid hb9
          have hs9 := hb9.size
          clear hn9 hb9 KA
          go_wp2_with fail
          refine (kit_abilities w9).mono ?_
          rintro e w10 ⟨rfl, rfl⟩
          obtain ⟨i0, hi0, hz0, hz1, hz2⟩ := info_string
          have ho10 := abil_own w9
          have HO10 := Lib.hid (ho10.alloc (.cells #[.string ⟨#[87, 114, 97, 112, 112, 101, 100]⟩, .string ⟨#[79, 114, 105, 103, 105, 110]⟩, .string ⟨#[79, 112, 97, 113, 117, 101]⟩] 9))
          clear ho10
          go_wp2_with (at_builtin; refine wpList_append_lies _ rfl _ _ 121 rfl w9.heap.size 9 i0 _ 1 16 Tryz.underlying121 hi0 hz0 hz1 hz2 rfl (by decide) _ 11 (allAbil.map Value.string) rfl HO10.out ⟨w9.heap.size + 1, 0, none⟩ 3 3 [.string ⟨#[87, 114, 97, 112, 112, 101, 100]⟩, .string ⟨#[79, 114, 105, 103, 105, 110]⟩, .string ⟨#[79, 112, 97, 113, 117, 101]⟩] rfl rfl (three_news _ _ _ _ _) (by simp [Value.oneCell']) (by decide) (by unfold maxLen; omega) (by omega) (by simp; omega) (w9.heap.size + 1 + 1) (by simp) ?_)
          intro g cap w11 hown hgr hat hlt11
          have hc11 : ∀ j, j < 14 → w11.cell? ⟨g, j, none⟩ = some (.string (names14.getD j ByteArray.empty)) := fun j hj => by
            have h := hown.cellAt j (by omega)
            rw [h]
            exact names14_at j hj
          have hb911 : Below w9.heap.size w9 w11 := ((((Below.refl w9.heap.size w9).alloc (Nat.le_refl _) _).alloc (by simp) _).grown hgr (by simp; omega) (fun q e => by injection e with e; exact Nat.le_of_eq e))
          have HC11 := Lib.hid hc11
          have HB911 := Lib.hid hb911
          have hs11 := hb911.size
          have HBW := Lib.hid (H8.out.trans ((HB9.out.trans (HB911.out.mono HB9.out.size)).mono H8.out.size))
          have HB811 := Lib.hid (HB9.out.trans (HB911.out.mono HB9.out.size))
          have HNA := Lib.hid (HN9.out.keep (S' := (· < w11.heap.size)) (fun b o hs => HB911.out.cell (p := ⟨b, o, none⟩) hs.2) (fun b hs => Nat.lt_of_lt_of_le hs.2 hs11))
          have HNR := Lib.hid (HN8.out.keep (S' := (· < w11.heap.size)) (fun b o hs => HB811.out.cell (p := ⟨b, o, none⟩) hs) (fun b hs => by have : b < w8.heap.size := hs; omega))
          have HRX11 := Lib.hid ((HB811.out.block _ (lt_of_block HRX8.out)).trans HRX8.out)
          have HKA11 := Lib.hid (HKA8.out.below HB811.out)
          have HNO11 := Lib.hid (HNO8.out.below HB811.out)
          clear hown hgr hat hc11 hb911 HO10
          go_wp2
          go_loopw [117, 19] (fun s117 _ wr => ∃ (j n : Nat), j ≤ 14 ∧ s117 = .int .i64 (j : Int) ∧ wr = w11.drewN n) (fun s117 _ _ => 14 - (intOf s117).toNat)
          case atStart => exact ⟨0, 0, by omega, rfl, rfl⟩
          case round =>
            obtain ⟨i2, n2, hi2, rfl, hwr⟩ := hrel
            subst hwr
            by_cases hlt14 : i2 < 14
            · have e0 : (w11.drewN n2).cell? ⟨g, i2, none⟩ = some (.string (names14.getD i2 ByteArray.empty)) := HC11.out i2 hlt14
              have e5 : (w11.drewN n2).cell? ⟨R, 5, none⟩ = some (.slice A1 r.abil.length c1) := show w11.cell? ⟨R, 5, none⟩ = some (.slice A1 r.abil.length c1) by simp [World.cell?, HRX11.out]
              have qA := Lib.hid (fun (m : Nat) (x : ByteArray) => contains_of (w := (w11.drewN n2).drewN m) (S := (· < w11.heap.size)) (HNA.out.keep (fun _ _ _ => rfl) (fun _ h => h)) HM.out.abil.1 (by have := HM.out.abil.2; omega) c9 x)
              have qB := Lib.hid (fun (m : Nat) (x : ByteArray) => contains_of (w := (w11.drewN n2).drewN m) (S := (· < w11.heap.size)) (HNR.out.keep (fun _ _ _ => rfl) (fun _ h => h)) HM.out.abil.1 (by have := HM.out.abil.2; omega) c1 x)
              generalize names14.getD i2 ByteArray.empty = nm at *
              generalize Lib.containsS r.abil = con at *
              generalize hwx : w11.drewN n2 = wx at *
              have HWX := Lib.hid hwx
              clear hwx
              go_wp2
              refine wp_region_quiet_lit (by kernel_rfl) (by kernel_rfl) ?_
              quiet_step (fail)
              quiet_step (fail)
              quiet_step (exact Calls.quiet_of_same ((qA.out _ _).mono fun _ _ ⟨a, b⟩ => ⟨a, b.symm⟩))
              quiet_step (fail)
              quiet_step (fail)
              quiet_step (fail)
              quiet_step (exact Calls.quiet_of_same ((qB.out _ _).mono fun _ _ ⟨a, b⟩ => ⟨a, b.symm⟩))
              quiet_step (fail)
              refine wpQuiet_nil ?_
              intro _ hw'
              obtain ⟨nq2, hw''⟩ := hw'
              subst hw''
              go_wp2
              go_roundw
              case rel => exact ⟨i2 + 1, _, by omega, by go_num, by rw [← HWX.out]; exact World.drewN_drewN _ _ _⟩
              case measure => simp [intOf]; omega
            · have HEND : Hid (MakePost r.kind s (ks.map Kd.n) T w (.returned (.tuple #[.pointer (some ⟨kb, 0, none⟩), .nilIface])) (w11.drewN n2)) := Lib.hid
                ⟨kd, nb, by rw [HKE.out], by rw [HKE.out]; exact HKB.out, HKN.out, ⟨HKA11.out.1, HKA11.out.2⟩, HNO11.out.keep (fun _ _ _ => rfl) (fun _ h => h), below_drewN HBW.out n2⟩
              go_wp2
              go_ret2
              exact HEND.out
end Go.Proofs.YtcldbjgikkfnbaaGreatDoor

/-
  What a law's 'made' keeps: handles of literals in a row of its own. Plain. Conditions: none.
-/
namespace Go.Proofs.YtcldbjgikkfnbaaGreatDoor
open Go.RowKit
set_option linter.unusedVariables false

/-- Handles of literals, in a row that a call owns. -/
structure KidRow (w : World) (base : Nat) (v : Value) (ks : List Kd) : Prop where
  own : w.ownsRow base 101 1 v ks.length (ks.map Kd.ptr)
  kids : ∀ k ∈ ks, k.at_ w ∧ IsLit k.n
  nil_ : ks = [] → v = .slice none 0 0
theorem KidRow.nil (w : World) (base : Nat) : KidRow w base (.slice none 0 0) [] := ⟨World.ownsRow_nil _ _ _ _, fun k hk => absurd hk List.not_mem_nil, fun _ => rfl⟩
theorem KidRow.below {w w' : World} {base : Nat} {v : Value} {ks : List Kd} (h : KidRow w base v ks) (hb : Below w.heap.size w w') : KidRow w' base v ks := ⟨own_below h.own hb, fun k hk => ⟨(h.kids k hk).1.below hb, (h.kids k hk).2⟩, h.nil_⟩
theorem KidRow.other {w : World} {base : Nat} {v : Value} {ks : List Kd} (h : KidRow w base v ks) {b : Nat} (hb : b < base) : some b ≠ v.ownBlock := fun e => by have := (h.own.lt b e.symm).1; omega
theorem KidRow.push {w w' : World} {base : Nat} {v : Value} {ks : List Kd} (h : KidRow w base v ks) {k : Kd} (hk : k.at_ w) (hl : IsLit k.n) {Y : Obj} (hgr : (w.alloc Y).grownBy w' v.ownBlock) {g cap : Nat}
    (hown : w'.ownsRow base 101 1 (.slice (some ⟨g, 0, none⟩) (ks.length + 1) cap) (ks.length + 1) (ks.map Kd.ptr ++ [k.ptr])) : KidRow w' base (.slice (some ⟨g, 0, none⟩) (ks.length + 1) cap) (ks ++ [k]) := by
  have hne : ∀ q : Kd, q.at_ w → v.ownBlock ≠ some q.blk := fun q hq e => by
    rcases h.own.2 with ⟨e2, _⟩ | ⟨g', cap', cur, e1, e2, e3, _⟩
    · rw [e2] at e; cases e
    · rw [e1] at e
      have e5 : g' = q.blk := by simpa [Value.ownBlock] using e
      rw [e5, hq.1] at e3
      injection e3 with e3
      injection e3 with _ e6 _
      exact absurd e6 (by decide)
  have hat : ∀ q : Kd, q.at_ w → q.at_ w' := fun q hq => ⟨by rw [hgr.block q.blk (by rw [size_alloc]; have := hq.lt; omega) (Ne.symm (hne q hq)), Below.heap_alloc _ _ _ hq.lt]; exact hq.1, hq.2⟩
  refine ⟨by simpa using hown, fun q hq => ?_, fun e => absurd e (by simp)⟩
  rcases List.mem_append.1 hq with h1 | h1
  · exact ⟨hat q (h.kids q h1).1, (h.kids q h1).2⟩
  · rw [List.mem_singleton.1 h1]; exact ⟨hat k hk, hl⟩
theorem KidRow.kidsIn {w : World} {base : Nat} {v : Value} {ks : List Kd} (h : KidRow w base v ks) : ∃ A c, v = .slice A ks.length c ∧ KidsIn w ks A ∧ (ks = [] → A = none ∧ c = 0) := by
  obtain ⟨A, c, e, hv⟩ := own_vals h.own (by simp)
  refine ⟨A, c, e, ⟨hv.keep (fun _ _ _ => rfl) (fun b hb => hb.2), fun k hk => (h.kids k hk).1⟩, fun e0 => ?_⟩
  have := h.nil_ e0
  rw [e] at this
  injection this with h1 h2 h3
  exact ⟨h1, h3⟩
/-- What 'made' gives: a node, in memory. -/
def MadePost (kind text : ByteArray) (n : Nat) (T : TypeId) (w : World) (e : Ending) (w' : World) : Prop :=
  ∃ (nb : Nat) (vs : List Value), vs.length = n ∧ e = .returned (.iface T (.pointer (some ⟨nb, 0, none⟩))) ∧ NodeAt w' (· < w'.heap.size) nb kind text vs (extra T text) ∧ Below w.heap.size w w'
end Go.Proofs.YtcldbjgikkfnbaaGreatDoor

/-
  espalierlaw11.made: a node of a kit's kind over some literals: a walk. Printed by a program of mine (gen_made.py). Conditions: the kit lies in memory, its maker gives what the row says.
-/
namespace Go.Proofs.YtcldbjgikkfnbaaGreatDoor
open Go.RowKit
set_option linter.unusedVariables false

set_option maxRecDepth 100000 in
set_option maxHeartbeats 8000000 in
theorem law11_made {w : World} {M KB : Nat} {name : ByteArray} {vv : Value} {ts : List RowAt} {f : FuncId} (h : KitIn w M KB name (.func (.func f) #[] #[]) vv ts) (hlen : ts.length ≤ 1000000) (k : Nat) (hk : k < ts.length) (hdis : ∀ j (h : j < k), (ts[j]'(by omega)).row.kind ≠ ts[k].row.kind)
    {s : ByteArray} {T : TypeId} {B : Nat → Bool} (n : Nat) (hn : n ≤ 1000) (hm : ∀ ks : List Kd, ks.length = n → (∀ k ∈ ks, SameKid k) → MakeOk ts[k].row s ks f T B) :
    Calls Tryz.prog 22 #[.pointer (some ⟨KB, 0, none⟩), .agg #[.string ts[k].row.kind, .int .i64 0, .string s, .slice none 0 0], .int .i64 (n : Int)] w (MadePost ts[k].row.kind s n T w) := by
  obtain ⟨i0, hi, hz0, hz1, hz2⟩ := info_handle
  have HR := Lib.hid (fun (w' : World) (hb : Below w.heap.size w w') (ks : List Kd) (e : ks.length = n) (hs : ∀ k ∈ ks, SameKid k) (A : Option Addr) (c : Nat) (h0 : ks = [] → A = none ∧ c = 0) (hk' : KidsIn w' ks A) => kit_Make (v := ByteArray.empty) (h.below hb) hlen k hk hdis (hm ks e hs) (.slice none 0 0) ⟨_, _, _, rfl⟩ A c h0 hk')
  clear h hlen hdis hm
  generalize ts[k].row.kind = kind at *
  go_enter Tryz.func22, Tryz.ntmps22
  go_wp2
  have HX0 := heap_alloc_new w (.cells #[.string kind, .int .i64 0, .string s, .slice none 0 0] 65)
  have HB0 := (Below.refl w.heap.size w).alloc (Nat.le_refl _) (.cells #[.string kind, .int .i64 0, .string s, .slice none 0 0] 65)
  go_loopw [8, 7] (fun s8 s7 wr => ∃ ks : List Kd, ks.length ≤ n ∧ s8 = .int .i64 (ks.length : Int) ∧ KidRow wr (w.heap.size + 1) s7 ks ∧ wr.heap[w.heap.size]? = some (.cells #[.string kind, .int .i64 0, .string s, .slice none 0 0] 65) ∧ Below w.heap.size w wr) (fun s8 _ _ => n - (intOf s8).toNat)
  case atStart => exact ⟨[], Nat.zero_le _, rfl, KidRow.nil _ _, HX0, HB0⟩
  case round =>
    obtain ⟨ks, hle, rfl, hrow, hx, hbel⟩ := hrel
    have HO := Lib.hid hrow
    have HX := Lib.hid hx
    have HB := Lib.hid hbel
    have hxl := lt_of_block hx
    have hws := hbel.size
    clear hrow hx hbel HX0 HB0
    have hlen : Hid (ks.length = ks.length) := Lib.hid rfl
    by_cases hlt : ks.length < n
    · have KM := Lib.hid (node_Make wr)
      unfold yesTree at KM
      go_wp2_with fail
      refine KM.out.mono ?_
      rintro e w2 ⟨kd, rfl, hkb, hka, hlit, hb2⟩
      have HKA := Lib.hid hka
      have HLI := Lib.hid hlit
      have HB2 := Lib.hid (HB.out.trans (hb2.mono hws))
      have HX2 := Lib.hid ((hb2.block _ hxl).trans HX.out)
      have HO2 := Lib.hid (HO.out.below hb2)
      have HN2 := Lib.hid HO2.out.own
      have hs2 : w.heap.size < w2.heap.size := Nat.lt_of_lt_of_le hxl hb2.size
      clear hka hlit hkb hb2 KM HO HX
      unfold Kd.ptr
      go_wp2_with (at_builtin; refine wpList_append_lies _ rfl _ _ 100 rfl (w.heap.size + 1) 101 i0 _ 1 8 Tryz.underlying100 hi hz0 hz1 hz2 rfl (by decide) _ ks.length (ks.map Kd.ptr) rfl (HN2.out.alloc _) ⟨w2.heap.size, 0, none⟩ 1 1 [.pointer (some ⟨kd.blk, 0, none⟩)] rfl rfl (one_new w2 _ _) (by simp [Value.oneCell']) (by decide) (by unfold maxLen; omega) (by omega) (by simp; omega) (w2.heap.size + 1) (by simp) ?_)
      intro g cap w3 hown3 hgr3 hat hlt3
      have HO3 := Lib.hid (HO2.out.push HKA.out HLI.out hgr3 hown3)
      have HX3 : Hid (w3.heap[w.heap.size]? = _) := Lib.hid ((hgr3.block _ (by rw [size_alloc]; omega) (HO2.out.other (Nat.lt_succ_self _))).trans ((Below.heap_alloc _ _ _ hs2).trans HX2.out))
      have HB3 := Lib.hid ((HB2.out.alloc HB2.out.size _).grown hgr3 (by rw [size_alloc]; omega) (fun q e => by have := (HN2.out.lt q e).1; omega))
      clear hown3 hgr3 hat
      go_wp2
      go_roundw
      case rel => exact ⟨ks ++ [kd], by simp; omega, by simp, by simpa using HO3.out, HX3.out, HB3.out⟩
      case measure => simp [intOf]; omega
    · have heq : ks.length = n := by omega
      obtain ⟨A, c, rfl, hki, h0⟩ := HO.out.kidsIn
      have KK := Lib.hid (HR.out wr HB.out ks heq (fun k hk => same_lit (HO.out.kids k hk).2) A c h0 hki)
      have t0 := fun j => show wr.cell? ⟨w.heap.size, j, none⟩ = (#[.string kind, .int .i64 0, .string s, .slice none 0 0] : Array Value)[j]? by simp [World.cell?, HX.out]
      have hl : (ks.map Kd.n).length = n := by simpa using heq
      rw [heq] at KK
      clear hki h0 HO HR
      generalize ks.map Kd.n = vs at *
      go_wp2_with fail
      refine KK.out.mono ?_
      rintro e w2 ⟨kd, nb, rfl, hkb, hkn, hka, hno, hb2⟩
      have KN := Lib.hid (node_Node kd w2 hka)
      rw [hkn] at KN
      have HNO := Lib.hid hno
      have HB2 := Lib.hid (HB.out.trans (hb2.mono hws))
      clear hkb hkn hka hno hb2 KK t0
      generalize kd.blk = kb at *
      go_wp2_with fail
      refine KN.out.mono ?_
      rintro e w3 ⟨rfl, rfl⟩
      go_wp2
      go_ret
      exact ⟨nb, vs, hl, rfl, HNO.out, HB2.out⟩
end Go.Proofs.YtcldbjgikkfnbaaGreatDoor
