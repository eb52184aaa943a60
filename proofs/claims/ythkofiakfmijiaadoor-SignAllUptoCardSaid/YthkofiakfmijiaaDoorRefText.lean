/-
  espalierref3.digits, PathText, PlaceText: walks: the same answers as package sign's. Conditions: within a row's reach.
-/
import Derived.Test.YthkofiakfmijiaaDoorRefCut
import Derived.Laws.IdiomStrings
namespace Go.Proofs.YthkofiakfmijiaaDoor
open Go.RowKit
set_option linter.unusedVariables false

theorem dec_step {m : Nat} (h : 10 ≤ m) : Lib.decDigits m = Lib.decDigits (m / 10) ++ [UInt8.ofNat (48 + m % 10)] := by rw [Lib.decDigits, dif_neg (by omega)]
def digS (d : Nat) : ByteArray := ⟨#[UInt8.ofNat (48 + d)]⟩
/-- One byte, laid and turned into a text. -/
theorem conv_one (w : World) (d : Nat) (hd : d < 10) : (convert 73 9 (.slice (some ⟨w.heap.size, 0, none⟩) 1 1)).run Tryd.prog (w.alloc (.cells #[.int .u8 (48 + (d : Int))] 5)) = .ok (.string (digS d)) (w.alloc (.cells #[.int .u8 (48 + (d : Int))] 5)) := by
  have hb : (UInt8.ofNat (48 + d)).toNat = 48 + d := by simp; omega
  have := run_convert_bytes_back (P := Tryd.prog) (w.alloc (.cells #[.int .u8 (48 + (d : Int))] 5)) 73 9 5 ⟨w.heap.size, 0, none⟩ 1 [UInt8.ofNat (48 + d)] Tryd.underlying73 Tryd.underlying5 Tryd.underlying9 (fun j hj => by
    match j, hj with
    | 0, _ =>
      have e : (([UInt8.ofNat (48 + d)] : List UInt8)[0]'(by simp)).toNat = 48 + d := hb
      rw [e]
      simp [Addr.add])
  exact this
theorem dec_start (n : Nat) : Lib.decDigits n = if n / 10 = 0 then (digS (n % 10)).data.toList else Lib.decDigits (n / 10) ++ (digS (n % 10)).data.toList := by
  by_cases h : n < 10
  · rw [if_pos (by omega), Lib.decDigits_one h, Nat.mod_eq_of_lt h]; rfl
  · rw [if_neg (by omega), dec_step (by omega)]; rfl
theorem dec_more {m : Nat} (h : 0 < m) (t : ByteArray) : Lib.decDigits m ++ t.data.toList = if m / 10 = 0 then (digS (m % 10) ++ t).data.toList else Lib.decDigits (m / 10) ++ (digS (m % 10) ++ t).data.toList := by
  have := dec_start m
  rw [this]
  split <;> simp [ByteArray.data_append]
set_option maxRecDepth 100000 in
set_option maxHeartbeats 2000000 in
theorem ref_digits (n : Nat) (w : World) (hn : n ≤ 1022) : Calls Tryd.prog 51 #[.int .i64 n] w (Bel (.string (bytesOf (Lib.decDigits n))) w) := by
  have hw0 : Hid (Below w.heap.size w w) := Lib.hid (Below.refl _ _)
  have h1 : (n : Int) ≤ 1022 := by omega
  have hcv := conv_one w (n % 10) (Nat.mod_lt _ (by decide))
  have ecast : ((n % 10 : Nat) : Int) = (n : Int) % 10 := by omega
  rw [ecast] at hcv
  have HB1 : Hid (Below w.heap.size w (w.alloc (.cells #[.int .u8 (48 + (n : Int) % 10)] 5))) := Lib.hid ((Below.refl _ _).alloc (Nat.le_refl _) _)
  clear ecast
  go_enter Tryd.func51, Tryd.ntmps51
  go_wp2
  have hst := Lib.hid (dec_start n)
  have hdl : Hid ((Lib.decDigits n).length ≤ 4) := Lib.hid (dec_len (by omega))
  clear hcv
  go_loopw [0, 3] (fun mv tv wr => ∃ (m : Nat) (tb : ByteArray), m ≤ 1022 ∧ mv = .int .i64 m ∧ tv = .string tb ∧ (Lib.decDigits n = if m = 0 then tb.data.toList else Lib.decDigits m ++ tb.data.toList) ∧ Below w.heap.size w wr) (fun mv tv wr => (intOf mv).toNat)
  case atStart => exact ⟨n / 10, digS (n % 10), by omega, by go_num, rfl, hst.out, HB1.out⟩
  case round =>
    obtain ⟨m, tb, hm, rfl, rfl, hd, hbel⟩ := hrel
    have HD := Lib.hid hd
    have HB := Lib.hid hbel
    have hts : tb.size ≤ 4 := by
      rw [Lib.size_eq]
      have h4 := hdl.out
      rw [hd] at h4
      split at h4
      · exact h4
      · rw [List.length_append] at h4; omega
    clear hd hbel
    have hm1 : (m : Int) ≤ 1022 := by omega
    by_cases h0 : 0 < m
    · have hcv := conv_one wr (m % 10) (Nat.mod_lt _ (by decide))
      have ecast : ((m % 10 : Nat) : Int) = (m : Int) % 10 := by omega
      rw [ecast] at hcv
      have HN := Lib.hid (show Lib.decDigits n = if m / 10 = 0 then (digS (m % 10) ++ tb).data.toList else Lib.decDigits (m / 10) ++ (digS (m % 10) ++ tb).data.toList by
        rw [HD.out, if_neg (by omega)]; exact dec_more h0 tb)
      have HB2 := Lib.hid (HB.out.alloc HB.out.size (.cells #[.int .u8 (48 + (m : Int) % 10)] 5))
      have hds : (digS (m % 10)).size = 1 := rfl
      have HDS := Lib.hid hds
      have hds2 : (digS (m % 10)).size ≤ 1 := by omega
      clear ecast hds
      go_wp2
      go_roundw
      case rel => exact ⟨m / 10, digS (m % 10) ++ tb, by omega, by go_num, rfl, HN.out, HB2.out⟩
      case measure => simp [intOf]; omega
    · obtain rfl : m = 0 := by omega
      have hx : Hid (tb = bytesOf (Lib.decDigits n)) := Lib.hid (bytes_ext (by have := HD.out; simp only [if_true] at this; rw [bytesOf_data, this]))
      go_wp2
      go_ret
      exact ⟨by rw [← hx.out]; rfl, HB.out⟩
theorem join_snoc {xs : List (List UInt8)} (h : xs ≠ []) (y sep : List UInt8) : Lib.join (xs ++ [y]) sep = Lib.join xs sep ++ sep ++ y := by
  obtain ⟨x, r, rfl⟩ := List.exists_cons_of_ne_nil h
  rw [List.cons_append, Lib.join_cons, Lib.join_cons]
  simp [Lib.joinTail]
/-- What stands before a place of a path. -/
def upTo (l : List Int) (k : Nat) : List UInt8 := if k = 0 then [45] else Lib.join ((l.take k).map Lib.itoa) [46]
theorem upTo_next {l : List Int} {k n : Nat} (hk : k < l.length) (hn : l[k]'hk = (n : Int)) {t : ByteArray} (ht : t.data.toList = upTo l k) :
    (k = 0 → (bytesOf (Lib.decDigits n)).data.toList = upTo l (k + 1)) ∧ (0 < k → (t ++ ⟨#[46]⟩ ++ bytesOf (Lib.decDigits n)).data.toList = upTo l (k + 1)) := by
  have hi : Lib.itoa (l[k]'hk) = Lib.decDigits n := by rw [hn, itoa_of (by omega)]; rfl
  unfold upTo at *
  rw [if_neg (by omega : ¬ k + 1 = 0), List.take_succ_eq_append_getElem hk, List.map_append, List.map_cons, List.map_nil, hi]
  refine ⟨fun h => ?_, fun h => ?_⟩
  · subst h
    simp [Lib.join_one, bytesOf_data]
  · rw [if_neg (by omega)] at ht
    rw [join_snoc (by intro e; rw [List.map_eq_nil_iff, List.take_eq_nil_iff] at e; rcases e with e | e; · omega
                      · rw [e] at hk; simp at hk)]
    simp only [ByteArray.data_append, Array.toList_append, bytesOf_data]
    rw [ht]
theorem upTo_all (l : List Int) : upTo l l.length = pathT l := by
  unfold upTo pathT
  by_cases h : l = []
  · subst h; rfl
  · rw [if_neg (fun e => h (List.length_eq_zero_iff.1 e)), if_neg h, List.take_of_length_le (Nat.le_refl _)]
theorem upTo_len {l : List Int} (hp : pathL l = true) (k : Nat) : (upTo l k).length ≤ 320 := by
  unfold upTo
  have h3 := hp
  unfold pathL at h3
  simp only [Bool.and_eq_true, decide_eq_true_eq] at h3
  split
  · simp
  · refine Nat.le_trans (join_len _ ?_) (by rw [List.length_map, List.length_take]; omega)
    intro x hx
    obtain ⟨n, hn, rfl⟩ := List.mem_map.1 hx
    have := List.all_eq_true.1 h3.2 n (List.mem_of_mem_take hn)
    simp at this
    rw [itoa_of this.1]
    exact dec_len (by omega)
set_option maxRecDepth 100000 in
set_option maxHeartbeats 4000000 in
theorem ref_PathText (A : Option Addr) (l : List Int) (c : Nat) (w : World) (hl : l.length ≤ 140737488355328) (hR : RdI w w.heap.size A l) :
    Calls Tryd.prog 24 #[.slice A l.length c] w (Bel (.tuple #[.string (pathTextV l).1, .int .i64 (pathTextV l).2]) w) := by
  have HP := Lib.hid (ref_path A l c w _ hl hR)
  have HR := Lib.hid hR
  have hw0 : Hid (Below w.heap.size w w) := Lib.hid (Below.refl _ _)
  clear hR
  cases hp : pathL l
  · have hx := Lib.hid (show pathTextV l = (⟨#[]⟩, 1) by simp [pathTextV, hp])
    go_enter Tryd.func24, Tryd.ntmps24
    go_wp2_with fail
    refine HP.out.mono ?_
    rintro e w' ⟨rfl, rfl⟩
    rw [hp]
    clear hp
    go_wp2
    go_ret2
    exact ⟨by rw [hx.out]; rfl, hw0.out⟩
  have hx := Lib.hid (show pathTextV l = (bytesOf (pathT l), 0) by simp [pathTextV, hp])
  have HPL := Lib.hid hp
  have hs0 : Hid ((⟨#[45]⟩ : ByteArray).data.toList = upTo l 0) := Lib.hid rfl
  go_enter Tryd.func24, Tryd.ntmps24
  go_wp2_with fail
  refine HP.out.mono ?_
  rintro e w' ⟨rfl, rfl⟩
  rw [hp]
  clear hp
  go_wp2
  go_loopw [4, 5] (fun tv i wr => ∃ (k : Nat) (tb : ByteArray), k ≤ l.length ∧ i = .int .i64 k ∧ tv = .string tb ∧ tb.data.toList = upTo l k ∧ Below w.heap.size w wr) (fun tv i wr => l.length - (intOf i).toNat)
  case atStart => exact ⟨0, _, Nat.zero_le _, rfl, rfl, hs0.out, hw0.out⟩
  case round =>
    obtain ⟨k, tb, hk, rfl, rfl, ht, hbel⟩ := hrel
    have HT := Lib.hid ht
    have HB := Lib.hid hbel
    clear ht hbel
    by_cases hlt : k < l.length
    · obtain ⟨ad, rfl, _, hc⟩ := RdI.at_ (Rd.below HR.out HB.out) hlt
      have hrng := pathL_rng HPL.out hlt
      obtain ⟨n, hn⟩ := Int.eq_ofNat_of_zero_le hrng.1
      have hn2 : n ≤ 1022 := by omega
      have HU := Lib.hid (upTo_next hlt hn HT.out)
      have KD := Lib.hid (ref_digits n wr hn2)
      have hts : tb.size ≤ 320 := by rw [Lib.size_eq, HT.out]; exact upTo_len HPL.out k
      have hds : (bytesOf (Lib.decDigits n)).size ≤ 4 := by rw [Lib.size_eq, bytesOf_data]; exact dec_len (by omega)
      rw [hn] at hc
      clear hrng hn
      by_cases h0 : k = 0
      · have hd : ((k : Int) == 0) = true := by simp [h0]
        have HN := Lib.hid (HU.out.1 h0)
        clear h0
        go_wp2_with fail
        refine KD.out.mono ?_
        rintro e w2 ⟨rfl, hb⟩
        have HB2 := Lib.hid (HB.out.trans (hb.mono HB.out.size))
        clear hb
        go_wp2
        go_roundw
        case rel => exact ⟨k + 1, _, by omega, by go_num, rfl, HN.out, HB2.out⟩
        case measure => simp [intOf]; omega
      · have hd : ((k : Int) == 0) = false := by simp [h0]
        have HN := Lib.hid (HU.out.2 (by omega))
        clear h0
        go_wp2_with fail
        refine KD.out.mono ?_
        rintro e w2 ⟨rfl, hb⟩
        have HB2 := Lib.hid (HB.out.trans (hb.mono HB.out.size))
        clear hb
        go_wp2
        go_roundw
        case rel => exact ⟨k + 1, _, by omega, by go_num, rfl, HN.out, HB2.out⟩
        case measure => simp [intOf]; omega
    · obtain rfl : k = l.length := by omega
      have hx2 : Hid (tb = bytesOf (pathT l)) := Lib.hid (bytes_ext (by rw [bytesOf_data, HT.out, upTo_all]))
      go_wp2
      go_ret2
      exact ⟨by rw [hx.out, ← hx2.out]; rfl, HB.out⟩
set_option maxHeartbeats 4000000 in
theorem ref_PlaceText (f : ByteArray) (A : Option Addr) (l : List Int) (c : Nat) (w : World) (hs : f.size ≤ 140737488351232) (hl : l.length ≤ 140737488355328) (hR : RdI w w.heap.size A l) :
    Calls Tryd.prog 27 #[.agg #[.string f, .slice A l.length c]] w (Bel (.tuple #[.string (placeTextV f l).1, .int .i64 (placeTextV f l).2]) w) := by
  have HB0 := Lib.hid (show Below w.heap.size w (w.alloc (.cells #[.string f, .slice A l.length c] 27)) from (Below.refl _ _).alloc (Nat.le_refl _) _)
  have HT := Lib.hid (ref_PathText A l c (w.alloc (.cells #[.string f, .slice A l.length c] 27)) hl (Rd.next hR HB0.out))
  have HN : Hid (∀ w1, Calls Tryd.prog 45 #[.string f] w1 fun e w' => e = .returned (.bool (nameB f)) ∧ w1 = w') := Lib.hid fun w1 => ref_Name f w1 hs
  clear hR
  cases hp : pathL l
  · have hx := Lib.hid (show placeTextV f l = (⟨#[]⟩, 1) by simp [placeTextV, placeB, hp])
    have ht := Lib.hid (show pathTextV l = (⟨#[]⟩, 1) by simp [pathTextV, hp])
    clear hp
    go_enter Tryd.func27, Tryd.ntmps27
    go_wp2_with fail
    refine HT.out.mono ?_
    rintro e w1 ⟨rfl, hb⟩
    rw [ht.out]
    have HB := Lib.hid (HB0.out.trans (hb.mono HB0.out.size))
    clear hb
    go_wp2
    go_ret2
    exact ⟨by rw [hx.out]; rfl, HB.out⟩
  have ht := Lib.hid (show pathTextV l = (bytesOf (pathT l), 0) by simp [pathTextV, hp])
  have hts : (bytesOf (pathT l)).size ≤ 320 := by rw [Lib.size_eq, bytesOf_data]; exact read_short (read_text hp)
  have HPL := Lib.hid hp
  clear hp
  by_cases h0 : f.toList = []
  · have hf : f = ⟨#[]⟩ := bytes_ext (by rw [← Lib.toList_data]; exact h0)
    have hx := Lib.hid (show placeTextV f l = (bytesOf (pathT l), 0) by simp [placeTextV, placeB, HPL.out, hf])
    have h0b : f.toList.isEmpty = true := by simpa using h0
    clear hf h0
    go_enter Tryd.func27, Tryd.ntmps27
    go_wp2_with fail
    refine HT.out.mono ?_
    rintro e w1 ⟨rfl, hb⟩
    rw [ht.out]
    have HB := Lib.hid (HB0.out.trans (hb.mono HB0.out.size))
    have hc0 : w1.cell? ⟨w.heap.size, 0, none⟩ = some (.string f) := (hb.cell (p := ⟨w.heap.size, 0, none⟩) (by simp)).trans (by simp)
    clear hb
    go_wp2
    go_ret2
    exact ⟨by rw [hx.out]; rfl, HB.out⟩
  · have hf : f ≠ ⟨#[]⟩ := by rintro rfl; exact h0 (by rw [Lib.toList_data])
    have h0b : f.toList.isEmpty = false := by simpa using h0
    cases hn : nameB f
    · have hx := Lib.hid (show placeTextV f l = (⟨#[]⟩, 1) by simp [placeTextV, placeB, hn, hf])
      clear hf h0
      go_enter Tryd.func27, Tryd.ntmps27
      go_wp2_with fail
      refine HT.out.mono ?_
      rintro e w1 ⟨rfl, hb⟩
      rw [ht.out]
      have HB := Lib.hid (HB0.out.trans (hb.mono HB0.out.size))
      have hc0 : w1.cell? ⟨w.heap.size, 0, none⟩ = some (.string f) := (hb.cell (p := ⟨w.heap.size, 0, none⟩) (by simp)).trans (by simp)
      clear hb
      go_wp2_with fail
      refine (HN.out _).mono ?_
      rintro e w' ⟨rfl, rfl⟩
      rw [hn]
      clear hn
      go_wp2
      go_ret2
      exact ⟨by rw [hx.out]; rfl, HB.out⟩
    · have hx := Lib.hid (show placeTextV f l = (f ++ ⟨#[58]⟩ ++ bytesOf (pathT l), 0) by simp [placeTextV, placeB, hn, hf, HPL.out])
      have hfs : f.size ≤ 32 := by
        unfold nameB madeB at hn
        simp only [Bool.and_eq_true, decide_eq_true_eq] at hn
        have := hn.1.1.2
        omega
      clear hf h0
      go_enter Tryd.func27, Tryd.ntmps27
      go_wp2_with fail
      refine HT.out.mono ?_
      rintro e w1 ⟨rfl, hb⟩
      rw [ht.out]
      have HB := Lib.hid (HB0.out.trans (hb.mono HB0.out.size))
      have hc0 : w1.cell? ⟨w.heap.size, 0, none⟩ = some (.string f) := (hb.cell (p := ⟨w.heap.size, 0, none⟩) (by simp)).trans (by simp)
      clear hb
      go_wp2_with fail
      refine (HN.out _).mono ?_
      rintro e w' ⟨rfl, rfl⟩
      rw [hn]
      clear hn
      go_wp2
      go_ret2
      exact ⟨by rw [hx.out]; rfl, HB.out⟩
end Go.Proofs.YthkofiakfmijiaaDoor
