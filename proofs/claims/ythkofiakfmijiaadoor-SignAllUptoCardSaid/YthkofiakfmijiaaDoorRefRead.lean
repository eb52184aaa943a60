/-
  espalierref3.ReadPath, ReadPlace: walks: the same answers as package sign's. Conditions: a text within a row's reach.
-/
import Derived.Test.YthkofiakfmijiaaDoorRefText
namespace Go.Proofs.YthkofiakfmijiaaDoor
open Go.RowKit
set_option linter.unusedVariables false

theorem numsL_snoc : ∀ {l : List (List UInt8)} {p : List Int} {x : List UInt8} {n : Nat}, numsL l = some p → numL x = some n → numsL (l ++ [x]) = some (p ++ [(n : Int)])
  | [], p, x, n, h, hx => by
    simp only [numsL, Option.some.injEq] at h
    subst h
    simp [numsL, hx]
  | y :: l, p, x, n, h, hx => by
    unfold numsL at h
    cases hy : numL y with
    | none => rw [hy] at h; simp at h
    | some m =>
      cases hr : numsL l with
      | none => rw [hy, hr] at h; simp at h
      | some q =>
        rw [hy, hr] at h
        simp only [Option.some.injEq] at h
        subst h
        have := numsL_snoc (x := x) hr hx
        simp [numsL, hy, this]
theorem numsL_bad : ∀ {l : List (List UInt8)} {x : List UInt8}, x ∈ l → numL x = none → numsL l = none
  | y :: l, x, h, hx => by
    unfold numsL
    rcases List.mem_cons.1 h with rfl | h
    · rw [hx]
    · rw [numsL_bad h hx]
      cases numL y <;> rfl
theorem numsL_get : ∀ {l : List (List UInt8)} {p : List Int}, numsL l = some p → ∀ x ∈ l, ∃ n, numL x = some n ∧ (n : Int) ∈ p
  | [], _, _, x, hx => by cases hx
  | y :: l, p, h, x, hx => by
    unfold numsL at h
    cases hy : numL y with
    | none => rw [hy] at h; simp at h
    | some m =>
      cases hr : numsL l with
      | none => rw [hy, hr] at h; simp at h
      | some q =>
        rw [hy, hr] at h
        simp only [Option.some.injEq] at h
        subst h
        rcases List.mem_cons.1 hx with rfl | hx
        · exact ⟨m, hy, by simp⟩
        · obtain ⟨n, h1, h2⟩ := numsL_get hr x hx
          exact ⟨n, h1, by simp [h2]⟩
/-- Reasons why a text is no path. -/
theorem read_bad {s : List UInt8} (h0 : s ≠ [45]) {x : List UInt8} (hx : x ∈ pieces 46 s) (hn : numL x = none ∨ ∃ n, numL x = some n ∧ 1022 < n) : readP s = none := by
  unfold readP
  rw [if_neg h0]
  rcases hn with hn | ⟨n, hn, hb⟩
  · rw [numsL_bad hx hn]
  · cases hp : numsL (pieces 46 s) with
    | none => rfl
    | some p =>
      obtain ⟨m, hm, hmp⟩ := numsL_get hp x hx
      rw [hn] at hm
      simp only [Option.some.injEq] at hm
      subst hm
      simp only
      rw [if_neg]
      intro hl
      unfold pathL at hl
      simp only [Bool.and_eq_true] at hl
      have := List.all_eq_true.1 hl.2 _ hmp
      simp at this
      omega
theorem read_long {s : List UInt8} (h0 : s ≠ [45]) (hl : 63 < (pieces 46 s).length) : readP s = none := by
  unfold readP
  rw [if_neg h0]
  cases hp : numsL (pieces 46 s) with
  | none => rfl
  | some p =>
    have := (itoa_nums _ _ hp).2
    simp only
    rw [if_neg]
    intro hc
    unfold pathL at hc
    simp only [Bool.and_eq_true, decide_eq_true_eq] at hc
    omega
set_option maxRecDepth 100000 in
set_option maxHeartbeats 4000000 in
theorem ref_ReadPath (s : ByteArray) (w : World) (hs : s.size ≤ 140737488351232) : Calls Tryd.prog 25 #[.string s] w (RP (readP s.data.toList) w) := by
  by_cases h0 : s.toList = [45]
  · have hq := Lib.hid (show readP s.data.toList = some [] by unfold readP; rw [← Lib.toList_data, if_pos h0])
    have h0b : (s.toList == [45]) = true := by simpa using h0
    clear h0
    go_enter Tryd.func25, Tryd.ntmps25
    go_wp2
    go_ret2
    exact RP.good hq.out (Below.refl _ _) rfl (World.ownsRow_nil _ _ _ _)
  have h0d : Hid (s.data.toList ≠ [45]) := Lib.hid (by rw [← Lib.toList_data]; exact h0)
  have h0b : (s.toList == [45]) = false := by simpa using h0
  clear h0
  by_cases h4 : 400 < s.size
  · have hq := Lib.hid (show readP s.data.toList = none by
      cases hr : readP s.data.toList with
      | none => rfl
      | some p =>
        have := read_short hr
        rw [← Lib.size_eq] at this
        omega)
    have hd : decide (400 < (s.size : Int)) = true := by simp; omega
    clear h4
    go_enter Tryd.func25, Tryd.ntmps25
    go_wp2
    go_ret2
    exact RP.bad hq.out (Below.refl _ _)
  have hd : decide (400 < (s.size : Int)) = false := by simp; omega
  have HC := Lib.hid (ref_cut s 46 w (by omega))
  have hlen := cutL_len s 46
  have hll : (cutL s 46).length ≤ 401 := by omega
  have hsm : Hid (∀ x ∈ cutL s 46, x.size ≤ 140737488351232) := Lib.hid fun x hx => by have := cutL_small hx; omega
  have hmap : Hid ((cutL s 46).map (·.data.toList) = pieces 46 s.data.toList) := Lib.hid (by
    unfold cutL
    rw [List.map_map]
    conv => rhs; rw [← List.map_id (pieces 46 s.data.toList)]
    exact List.map_congr_left fun x _ => rfl)
  clear hlen h4
  generalize cutL s 46 = L at *
  go_enter Tryd.func25, Tryd.ntmps25
  go_wp2_with fail
  refine HC.out.mono ?_
  rintro e w1 ⟨hb1, A1, c1, rfl, hown⟩
  have HB1 := Lib.hid hb1
  have HR := Lib.hid (Rd.of_own hown)
  have HS1 := Lib.hid hb1.size
  clear hb1 hown
  go_wp2
  go_loopw [5, 6] (fun v i wr => ∃ (k : Nat) (done : List Int) (A2 : Option Addr) (c2 : Nat), k ≤ L.length ∧ k ≤ 63 ∧ i = .int .i64 k ∧ v = .slice A2 k c2 ∧ done.length = k ∧ numsL ((L.take k).map (·.data.toList)) = some done ∧ pathL done = true ∧
    wr.ownsRow w1.heap.size 3 1 (.slice A2 k c2) k (done.map vI) ∧ Below w1.heap.size w1 wr) (fun v i wr => L.length - (intOf i).toNat)
  case atStart => exact ⟨0, [], none, 0, Nat.zero_le _, by omega, rfl, rfl, rfl, rfl, rfl, World.ownsRow_nil _ _ _ _, Below.refl _ _⟩
  case round =>
    obtain ⟨k, done, A2, c2, hk, hk63, rfl, rfl, hdl, hnum, hpd, hown, hbel⟩ := hrel
    have HDL := Lib.hid hdl
    have HNU := Lib.hid hnum
    have HPD := Lib.hid hpd
    have HO := Lib.hid hown
    have HB := Lib.hid hbel
    clear hdl hnum hpd hown hbel
    have HBW := Lib.hid (HB1.out.trans (HB.out.mono HB1.out.size))
    by_cases hlt : k < L.length
    · obtain ⟨ad, rfl, _, hc⟩ := RdS.at_ (Rd.below HR.out HB.out) hlt
      have hmem : Hid ((L[k]'hlt).data.toList ∈ pieces 46 s.data.toList) := Lib.hid (by rw [← hmap.out]; exact List.mem_map.2 ⟨_, List.getElem_mem hlt, rfl⟩)
      have KN := Lib.hid (ref_Number (L[k]'hlt) wr (hsm.out _ (List.getElem_mem hlt)))
      have HTK : Hid ((L.take (k + 1)).map (·.data.toList) = (L.take k).map (·.data.toList) ++ [(L[k]'hlt).data.toList]) := Lib.hid (by rw [List.take_succ_eq_append_getElem hlt, List.map_append]; rfl)
      cases hn : numL (L[k]'hlt).data.toList with
      | none =>
        have hx := Lib.hid (read_bad h0d.out hmem.out (.inl hn))
        have hv := numV_none hn
        rw [hv] at KN
        clear hv hn
        go_wp2_with fail
        refine KN.out.mono ?_
        rintro e w' ⟨rfl, rfl⟩
        go_wp2
        go_ret2
        exact RP.bad hx.out HBW.out
      | some n =>
        have hv := numV_some hn
        rw [hv] at KN
        have hn0 : decide ((n : Int) < 0) = false := by simp
        by_cases h1 : 1022 < n
        · have hx := Lib.hid (read_bad h0d.out hmem.out (.inr ⟨n, hn, h1⟩))
          have hd1 : decide (1022 < (n : Int)) = true := by simp; omega
          clear hv hn h1
          go_wp2_with fail
          refine KN.out.mono ?_
          rintro e w' ⟨rfl, rfl⟩
          go_wp2
          go_ret2
          exact RP.bad hx.out HBW.out
        · have hd1 : decide (1022 < (n : Int)) = false := by simp; omega
          by_cases h2 : 63 ≤ k
          · have hx := Lib.hid (read_long h0d.out (by rw [← hmap.out, List.length_map]; omega))
            have hd2 : decide (63 ≤ (k : Int)) = true := by simp; omega
            clear hv hn h1 h2
            go_wp2_with fail
            refine KN.out.mono ?_
            rintro e w' ⟨rfl, rfl⟩
            go_wp2
            go_ret2
            exact RP.bad hx.out HBW.out
          · have hd2 : decide (63 ≤ (k : Int)) = false := by simp; omega
            have hk2 : k < 63 := by omega
            have HN := Lib.hid (show numsL ((L.take (k + 1)).map (·.data.toList)) = some (done ++ [(n : Int)]) by rw [HTK.out]; exact numsL_snoc HNU.out hn)
            have HL := Lib.hid (show (done ++ [(n : Int)]).length = k + 1 by simp [HDL.out])
            have HP := Lib.hid (show pathL (done ++ [(n : Int)]) = true by
              have h3 := HPD.out
              unfold pathL at h3 ⊢
              simp only [Bool.and_eq_true, decide_eq_true_eq, List.all_append, List.all_cons, List.all_nil, Bool.and_true] at h3 ⊢
              rw [HL.out]
              exact ⟨by omega, h3.2, by omega, by omega⟩)
            have hmp : Hid ((done ++ [(n : Int)]).map vI = done.map vI ++ [.int .i64 (n : Int)]) := Lib.hid (by simp [vI])
            clear hv hn h1 h2
            go_wp2_with fail
            refine KN.out.mono ?_
            rintro e w' ⟨rfl, rfl⟩
            go_wp2_with (at_builtin; refine wp_app1 wr rfl _ _ _ rfl w1.heap.size 3 _ 8 Tryd.underlying25 infI rfl _ _ _ _ rfl HO.out _ rfl rfl ?h63 ?hby ?hbase ?_; (case h63 => unfold maxLen; omega); (case hby => omega); (case hbase => exact HB.out.size); intro g cap w3 hown3 hb3 hlt3 hg3)
            have HB3 := Lib.hid (HB.out.trans hb3)
            have HO3 : Hid (w3.ownsRow w1.heap.size 3 1 (.slice (some ⟨g, 0, none⟩) (k + 1) cap) (k + 1) ((done ++ [(n : Int)]).map vI)) := Lib.hid (by rw [hmp.out]; exact hown3)
            clear hown3 hb3
            go_wp2
            go_roundw
            case rel => exact ⟨k + 1, done ++ [(n : Int)], some ⟨g, 0, none⟩, cap, by omega, by omega, by go_num, rfl, HL.out, HN.out, HP.out, HO3.out, HB3.out⟩
            case measure => simp [intOf]; omega
    · obtain rfl : k = L.length := by omega
      have hx := Lib.hid (show readP s.data.toList = some done by
        unfold readP
        rw [if_neg h0d.out, ← hmap.out]
        have := HNU.out
        rw [List.take_of_length_le (Nat.le_refl _)] at this
        rw [this]
        simp [HPD.out])
      have HO3 := Lib.hid (own_less HO.out HS1.out)
      go_wp2
      go_ret2
      exact RP.good hx.out HBW.out HDL.out.symm HO3.out
/-- Where the colon stands first. -/
theorem colon_at {s : ByteArray} {k : Nat} (hlt : k < s.size) (hno : (58 : UInt8) ∉ s.data.toList.take k) (he : (s[k]'hlt) = 58) : cutV s 58 = (s.extract 0 k, s.extract (k + 1) s.size, true) := by
  have hl : k < s.data.toList.length := by simpa using hlt
  have e : s.data.toList = s.data.toList.take k ++ 58 :: s.data.toList.drop (k + 1) := by
    conv => lhs; rw [← List.take_append_drop k s.data.toList]
    rw [List.drop_eq_getElem_cons hl]
    have : s.data.toList[k]'hl = s[k]'hlt := rfl
    rw [this, he]
  rw [cutV_at e hno]
  refine Prod.ext (bytes_ext ?_) (Prod.ext (bytes_ext ?_) rfl)
  · rw [bytesOf_data, ext_from_zero]
  · rw [bytesOf_data, ext_to_end]
theorem no_next {s : ByteArray} {k : Nat} {c : UInt8} (hlt : k < s.size) (hno : c ∉ s.data.toList.take k) (he : (s[k]'hlt) ≠ c) : c ∉ s.data.toList.take (k + 1) := by
  rw [take_at hlt, List.mem_append, List.mem_singleton]
  rintro (h | h)
  · exact hno h
  · exact he h.symm
theorem byte_is {a b : UInt8} : (((a.toNat : Int)) == (b.toNat : Int)) = (a == b) := by
  by_cases h : a = b
  · subst h; simp
  · have h2 : ¬ ((a.toNat : Int) = (b.toNat : Int)) := fun e => h (UInt8.toNat_inj.1 (Int.ofNat_inj.1 e))
    rw [beq_eq_false_iff_ne.2 h2, beq_eq_false_iff_ne.2 h]
set_option maxRecDepth 100000 in
set_option maxHeartbeats 8000000 in
theorem ref_ReadPlace (s : ByteArray) (w : World) (hs : s.size ≤ 140737488351232) : Calls Tryd.prog 28 #[.string s] w (RPl (readPl s) w) := by
  have HB0 := Lib.hid (show Below w.heap.size w (w.alloc (.cells #[.string ⟨#[]⟩, .slice none 0 0] 27)) from (Below.refl _ _).alloc (Nat.le_refl _) _)
  have HX0 := Lib.hid (heap_alloc_new w (.cells #[.string ⟨#[]⟩, .slice none 0 0] 27))
  have hz0 : w.heap.size < (w.alloc (.cells #[.string ⟨#[]⟩, .slice none 0 0] 27)).heap.size := by simp
  generalize hw0 : w.alloc (.cells #[.string ⟨#[]⟩, .slice none 0 0] 27) = w0 at *
  have HW0 := Lib.hid hw0
  clear hw0
  go_enter Tryd.func28, Tryd.ntmps28
  go_wp2
  rw [HW0.out]
  go_loop [0, 3, 4, 5] (fun sv ev fv i => ∃ k : Nat, k ≤ s.size ∧ sv = .string s ∧ ev = .int .i64 0 ∧ fv = .string ⟨#[]⟩ ∧ i = .int .i64 k ∧ (58 : UInt8) ∉ s.data.toList.take k) (fun sv ev fv i => s.size - (intOf i).toNat)
  case atStart => exact ⟨0, Nat.zero_le _, rfl, rfl, rfl, rfl, by simp⟩
  case round =>
    obtain ⟨k, hk, rfl, rfl, rfl, rfl, hq⟩ := hrel
    have HQ := Lib.hid hq
    clear hq
    by_cases hlt : k < s.size
    · cases he : (((s[k]'hlt).toNat : Int) == 58)
      · have hne : (s[k]'hlt) ≠ 58 := by
          intro e
          rw [e] at he
          revert he; decide
        have HN := Lib.hid (no_next hlt HQ.out hne)
        clear hne
        go_wp2
        go_round
        case rel => exact ⟨k + 1, by omega, rfl, rfl, rfl, by go_num, HN.out⟩
        case measure => simp [intOf]; omega
      · have he58 : (s[k]'hlt) = 58 := by
          have := @byte_is (s[k]'hlt) 58
          have h58 : ((58 : UInt8).toNat : Int) = 58 := rfl
          rw [h58, he] at this
          simpa using this.symm
        have HC := Lib.hid (colon_at hlt HQ.out he58)
        have hfz : (s.extract 0 k).size ≤ 140737488351232 := by rw [ByteArray.size_extract]; omega
        have htz : (s.extract (k + 1) s.size).size ≤ 140737488351232 := by rw [ByteArray.size_extract]; omega
        have KN := Lib.hid (ref_Name (s.extract 0 k) w0 hfz)
        have KR := Lib.hid (ref_ReadPath (s.extract (k + 1) s.size) w0 htz)
        have hrp : Hid (readPl s = match readP (s.extract (k + 1) s.size).data.toList with
          | some l => if nameB (s.extract 0 k) then some (s.extract 0 k, l) else none
          | none => none) := Lib.hid (by unfold readPl; rw [HC.out]; rfl)
        clear he58 hfz htz
        have f0 : ∀ j, w0.cell? ⟨w.heap.size, j, none⟩ = (#[.string ⟨#[]⟩, .slice none 0 0] : Array Value)[j]? := fun j => by simp [World.cell?, HX0.out]
        have g1 : ∀ j, w0.frozen? ⟨w.heap.size, j, none⟩ = false := fun j => by simp [World.frozen?, HX0.out]
        cases hn : nameB (s.extract 0 k)
        · have hx := Lib.hid (show readPl s = none by
            rw [hrp.out, hn]
            cases readP (s.extract (k + 1) s.size).data.toList <;> rfl)
          go_wp2_with fail
          refine KN.out.mono ?_
          rintro e w' ⟨rfl, rfl⟩
          rw [hn]
          clear hn
          go_wp2
          obtain ⟨h1, h2, h3⟩ := place_out (f := ⟨#[]⟩) (A := none) (n := 0) (c := 0) (B := w0.heap.size) HB0.out HX0.out hz0 (World.ownsRow_nil _ _ _ _)
          refine bodyPost_ret (fn := Tryd.f28) (results_cell_tmp2 (p := 2) (q := 3) (ty := 27) Tryd.results28 rfl h1 rfl) rfl ?_
          rw [hx.out]
          exact ⟨h2, rfl⟩
        · clear f0 g1
          go_wp2_with fail
          refine KN.out.mono ?_
          rintro e w' ⟨rfl, rfl⟩
          rw [hn]
          go_wp2_with fail
          refine KR.out.mono ?_
          rintro e w2 ⟨hb2, hc⟩
          have HB2 := Lib.hid (HB0.out.trans (hb2.mono HB0.out.size))
          have HX2 := Lib.hid ((hb2.block w.heap.size hz0).trans HX0.out)
          have hz2 : w.heap.size < w2.heap.size := by have := hb2.size; omega
          clear hb2
          have f0 : ∀ j, w2.cell? ⟨w.heap.size, j, none⟩ = (#[.string ⟨#[]⟩, .slice none 0 0] : Array Value)[j]? := fun j => by simp [World.cell?, HX2.out]
          have g1 : ∀ j, w2.frozen? ⟨w.heap.size, j, none⟩ = false := fun j => by simp [World.frozen?, HX2.out]
          cases hr : readP (s.extract (k + 1) s.size).data.toList with
          | none =>
            rw [hr] at hc
            simp only at hc
            subst hc
            have hx := Lib.hid (show readPl s = none by rw [hrp.out, hr])
            clear hr hn
            go_wp2
            obtain ⟨h1, h2, h3⟩ := place_out (f := ⟨#[]⟩) (A := none) (n := 0) (c := 0) (B := w2.heap.size) HB2.out HX2.out hz2 (World.ownsRow_nil _ _ _ _)
            refine bodyPost_ret (fn := Tryd.f28) (results_cell_tmp2 (p := 2) (q := 3) (ty := 27) Tryd.results28 rfl h1 rfl) rfl ?_
            rw [hx.out]
            exact ⟨h2, rfl⟩
          | some l =>
            rw [hr] at hc
            obtain ⟨A, c, rfl, hown⟩ := hc
            have HO := Lib.hid hown
            have hx := Lib.hid (show readPl s = some (s.extract 0 k, l) by rw [hrp.out, hr, hn]; rfl)
            clear hr hn hown
            go_wp2
            obtain ⟨h1, h2, h3⟩ := place_out (f := s.extract 0 k) HB2.out HX2.out hz0 HO.out
            refine bodyPost_ret (fn := Tryd.f28) (results_cell_tmp2 (p := 2) (q := 3) (ty := 27) Tryd.results28 rfl h1 rfl) rfl ?_
            rw [hx.out]
            exact ⟨h2, A, c, rfl, h3⟩
    · obtain rfl : k = s.size := by omega
      have hno : Hid ((58 : UInt8) ∉ s.data.toList) := Lib.hid (by have := HQ.out; rwa [List.take_of_length_le (by simp)] at this)
      have hrp : Hid (readPl s = match readP s.data.toList with
        | some l => some (⟨#[]⟩, l)
        | none => none) := Lib.hid (by unfold readPl; rw [cutV_no hno.out]; rfl)
      have KR := Lib.hid (ref_ReadPath s w0 hs)
      go_wp2_with fail
      refine KR.out.mono ?_
      rintro e w2 ⟨hb2, hc⟩
      have HB2 := Lib.hid (HB0.out.trans (hb2.mono HB0.out.size))
      have HX2 := Lib.hid ((hb2.block w.heap.size hz0).trans HX0.out)
      have hz2 : w.heap.size < w2.heap.size := by have := hb2.size; omega
      clear hb2
      have f0 : ∀ j, w2.cell? ⟨w.heap.size, j, none⟩ = (#[.string ⟨#[]⟩, .slice none 0 0] : Array Value)[j]? := fun j => by simp [World.cell?, HX2.out]
      have g1 : ∀ j, w2.frozen? ⟨w.heap.size, j, none⟩ = false := fun j => by simp [World.frozen?, HX2.out]
      cases hr : readP s.data.toList with
      | none =>
        rw [hr] at hc
        simp only at hc
        subst hc
        have hx := Lib.hid (show readPl s = none by rw [hrp.out, hr])
        clear hr
        go_wp2
        obtain ⟨h1, h2, h3⟩ := place_out (f := ⟨#[]⟩) (A := none) (n := 0) (c := 0) (B := w2.heap.size) HB2.out HX2.out hz2 (World.ownsRow_nil _ _ _ _)
        refine bodyPost_ret (fn := Tryd.f28) (results_cell_tmp2 (p := 2) (q := 3) (ty := 27) Tryd.results28 rfl h1 rfl) rfl ?_
        rw [hx.out]
        exact ⟨h2, rfl⟩
      | some l =>
        rw [hr] at hc
        obtain ⟨A, c, rfl, hown⟩ := hc
        have HO := Lib.hid hown
        have hx := Lib.hid (show readPl s = some (⟨#[]⟩, l) by rw [hrp.out, hr])
        clear hr hown
        go_wp2
        obtain ⟨h1, h2, h3⟩ := place_out (f := ⟨#[]⟩) HB2.out HX2.out hz0 HO.out
        refine bodyPost_ret (fn := Tryd.f28) (results_cell_tmp2 (p := 2) (q := 3) (ty := 27) Tryd.results28 rfl h1 rfl) rfl ?_
        rw [hx.out]
        exact ⟨h2, A, c, rfl, h3⟩
end Go.Proofs.YthkofiakfmijiaaDoor
