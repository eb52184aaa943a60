/-
  espalierref3.cut, Names, path, Place: walks: the same answers as package sign's. Conditions: for cut and Names a text of at most 2^20 bytes; else a row's reach.
-/
import Derived.Test.YthkofiakfmijiaaDoorRefNumber
import Derived.Test.YthkofiakfmijiaaDoorLawTexts
namespace Go.Proofs.YthkofiakfmijiaaDoor
open Go.RowKit
set_option linter.unusedVariables false

/-- The pieces of a text. -/
def cutL (s : ByteArray) (c : UInt8) : List ByteArray := (pieces c s.data.toList).map bytesOf
/-- What cut answers. -/
def CP (L : List ByteArray) (w : World) (e : Ending) (w' : World) : Prop := Below w.heap.size w w' ∧ ∃ A c, e = .returned (.slice A L.length c) ∧ w'.ownsRow w.heap.size 9 1 (.slice A L.length c) L.length (L.map vS)
theorem CP.mk {L : List ByteArray} {w w' : World} {A : Option Addr} {n c : Nat} {xs : List Value} (hb : Below w.heap.size w w') (hn : n = L.length) (hx : xs = L.map vS) (ho : w'.ownsRow w.heap.size 9 1 (.slice A n c) n xs) : CP L w (.returned (.slice A n c)) w' := by
  subst hn; subst hx; exact ⟨hb, A, c, rfl, ho⟩
theorem ext_mid (s : ByteArray) (a b : Nat) : (s.extract a b).data.toList = (s.data.toList.drop a).take (b - a) := Lib.extract_data s a b
theorem bytesOf_ext (s : ByteArray) (a b : Nat) : bytesOf ((s.data.toList.drop a).take (b - a)) = s.extract a b := by
  apply bytes_ext
  rw [ext_mid, bytesOf_data]
/-- Where the byte stands the text is cut; where it does not it goes on. -/
theorem cut_step {s : ByteArray} {c : UInt8} {at_ i : Nat} (h1 : at_ ≤ i) (hlt : i < s.size) (hno : c ∉ (s.data.toList.drop at_).take (i - at_)) :
    (s[i]'hlt = c → pieces c (s.data.toList.drop at_) = (s.extract at_ i).data.toList :: pieces c (s.data.toList.drop (i + 1))) ∧ (s[i]'hlt ≠ c → c ∉ (s.data.toList.drop at_).take (i + 1 - at_)) := by
  have hl : i < s.data.toList.length := by simpa using hlt
  have hg : (s.data.toList.drop at_)[i - at_]? = some (s[i]'hlt) := by
    rw [List.getElem?_drop, show at_ + (i - at_) = i by omega, List.getElem?_eq_getElem hl]; rfl
  have hlen : i - at_ < (s.data.toList.drop at_).length := by rw [List.length_drop]; omega
  refine ⟨fun e => ?_, fun e => ?_⟩
  · have e1 : s.data.toList.drop at_ = (s.data.toList.drop at_).take (i - at_) ++ c :: s.data.toList.drop (i + 1) := by
      conv => lhs; rw [← List.take_append_drop (i - at_) (s.data.toList.drop at_)]
      rw [List.drop_eq_getElem_cons hlen]
      rw [List.getElem?_eq_getElem hlen] at hg
      simp only [Option.some.injEq] at hg
      rw [hg, e, List.drop_drop, show at_ + (i - at_ + 1) = i + 1 by omega]
    rw [ext_mid]
    conv => lhs; rw [e1]
    exact pieces_cut hno
  · rw [show i + 1 - at_ = i - at_ + 1 by omega, List.take_add_one, hg]
    simp only [Option.toList_some, List.mem_append, List.mem_singleton, not_or]
    exact ⟨hno, fun h => e h.symm⟩
set_option maxHeartbeats 2000000 in
theorem ref_cut (s : ByteArray) (c : UInt8) (w : World) (hs : s.size ≤ 1048576) : Calls Tryd.prog 52 #[.string s, .int .u8 (c.toNat : Int)] w (CP (cutL s c) w) := by
  have hw0 : Hid (Below w.heap.size w w) := Lib.hid (Below.refl _ _)
  have hs2 : s.size ≤ 140737488351232 := by omega
  go_enter Tryd.func52, Tryd.ntmps52
  go_wp2
  go_loopw [5, 6, 7] (fun v av iv wr => ∃ (i at_ : Nat) (done : List ByteArray) (A1 : Option Addr) (c1 : Nat), i ≤ s.size ∧ at_ ≤ i ∧ done.length ≤ at_ ∧ iv = .int .i64 i ∧ av = .int .i64 at_ ∧ v = .slice A1 done.length c1 ∧
    pieces c s.data.toList = done.map (·.data.toList) ++ pieces c (s.data.toList.drop at_) ∧ c ∉ (s.data.toList.drop at_).take (i - at_) ∧ wr.ownsRow w.heap.size 9 1 (.slice A1 done.length c1) done.length (done.map vS) ∧ Below w.heap.size w wr) (fun v av iv wr => s.size - (intOf iv).toNat)
  case atStart => exact ⟨0, 0, [], none, 0, Nat.zero_le _, Nat.le_refl _, Nat.le_refl _, rfl, rfl, rfl, rfl, by simp, World.ownsRow_nil _ _ _ _, hw0.out⟩
  case round =>
    obtain ⟨i, at_, done, A1, c1, hi, hat, hda, rfl, rfl, rfl, hpc, hno, hown, hbel⟩ := hrel
    have HPC := Lib.hid hpc
    have HNO := Lib.hid hno
    have HO := Lib.hid hown
    have HB := Lib.hid hbel
    clear hpc hno hown hbel
    by_cases hlt : i < s.size
    · have HST := Lib.hid (cut_step hat hlt HNO.out)
      cases he : (((s[i]'hlt).toNat : Int) == (c.toNat : Int))
      · have HN := Lib.hid (HST.out.2 (fun e => by rw [e] at he; simp at he))
        go_wp2
        go_roundw
        case rel => exact ⟨i + 1, at_, done, A1, c1, by omega, by omega, hda, by go_num, rfl, rfl, HPC.out, HN.out, HO.out, HB.out⟩
        case measure => simp [intOf]; omega
      · have HN := Lib.hid (HST.out.1 (UInt8.toNat_inj.1 (Int.ofNat_inj.1 (by simpa using he))))
        have hlen1 : Hid ((done ++ [s.extract at_ i]).length = done.length + 1) := Lib.hid (by simp)
        have hmap : Hid ((done ++ [s.extract at_ i]).map vS = done.map vS ++ [.string (s.extract at_ i)]) := Lib.hid (by simp [vS])
        have hpc2 : Hid (pieces c s.data.toList = (done ++ [s.extract at_ i]).map (·.data.toList) ++ pieces c (s.data.toList.drop (i + 1))) := Lib.hid (by rw [HPC.out, HN.out]; simp)
        go_wp2_with (at_builtin; refine wp_app1 wr rfl _ _ _ rfl w.heap.size 9 _ 16 Tryd.underlying41 infS rfl _ _ _ _ rfl HO.out _ rfl rfl ?h63 ?hby ?hbase ?_; (case h63 => unfold maxLen; omega); (case hby => omega); (case hbase => exact HB.out.size); intro g cap w3 hown3 hb3 hlt3 hg3)
        have HB3 := Lib.hid (HB.out.trans hb3)
        have HO3 : Hid (w3.ownsRow w.heap.size 9 1 (.slice (some ⟨g, 0, none⟩) (done.length + 1) cap) (done.length + 1) ((done ++ [s.extract at_ i]).map vS)) := Lib.hid (by rw [hmap.out]; exact hown3)
        clear hown3 hb3
        go_wp2
        go_roundw
        case rel => exact ⟨i + 1, i + 1, done ++ [s.extract at_ i], some ⟨g, 0, none⟩, cap, by omega, by omega, by rw [hlen1.out]; omega, by go_num, by go_num, by rw [hlen1.out], hpc2.out, by simp, by rw [hlen1.out]; exact HO3.out, HB3.out⟩
        case measure => simp [intOf]; omega
    · obtain rfl : i = s.size := by omega
      have hmap : Hid (done.map vS ++ [.string (s.extract at_ s.size)] = (cutL s c).map vS) := Lib.hid (by
        have h1 : pieces c (s.data.toList.drop at_) = [s.data.toList.drop at_] := pieces_none (by
          have := HNO.out
          rwa [List.take_of_length_le (by simp)] at this)
        have h2 : cutL s c = done ++ [s.extract at_ s.size] := by
          unfold cutL
          rw [HPC.out, h1, List.map_append, List.map_map]
          congr 1
          · conv => rhs; rw [← List.map_id done]
            exact List.map_congr_left fun x _ => Lib.mk_data x
          · simp only [List.map_cons, List.map_nil]
            congr 1
            apply bytes_ext
            rw [bytesOf_data, ext_to_end]
        rw [h2]; simp [vS])
      have hlen : Hid (done.length + 1 = (cutL s c).length) := Lib.hid (by
        have := congrArg List.length hmap.out
        simpa using this)
      go_wp2_with (at_builtin; refine wp_app1 wr rfl _ _ _ rfl w.heap.size 9 _ 16 Tryd.underlying41 infS rfl _ _ _ _ rfl HO.out _ rfl rfl ?h63 ?hby ?hbase ?_; (case h63 => unfold maxLen; omega); (case hby => omega); (case hbase => exact HB.out.size); intro g cap w3 hown3 hb3 hlt3 hg3)
      have HB3 := Lib.hid (HB.out.trans hb3)
      have HO3 := Lib.hid hown3
      clear hown3 hb3
      go_wp2
      go_ret
      exact CP.mk HB3.out hlen.out hmap.out HO3.out
theorem cutL_blanks (s : ByteArray) : cutL s 32 = blanksL s := rfl
theorem cutL_small {s x : ByteArray} {c : UInt8} (h : x ∈ cutL s c) : x.size ≤ s.size := by
  unfold cutL at h
  obtain ⟨p, hp, rfl⟩ := List.mem_map.1 h
  have := pieces_small hp
  rw [Lib.size_eq, Lib.size_eq]
  exact this
theorem pieces_len (c : UInt8) : ∀ l : List UInt8, (pieces c l).length ≤ l.length + 1
  | [] => by simp [pieces]
  | b :: l => by
    have := pieces_len c l
    unfold pieces
    split
    · simp; omega
    · have hn := pieces_ne c l
      cases hp : pieces c l with
      | nil => exact absurd hp hn
      | cons q r => rw [hp] at this; simp at this ⊢; omega
theorem cutL_len (s : ByteArray) (c : UInt8) : (cutL s c).length ≤ s.size + 1 := by
  unfold cutL
  rw [List.length_map, Lib.size_eq]
  exact pieces_len c _
set_option maxHeartbeats 1000000 in
theorem ref_Names (s : ByteArray) (w : World) (hs : s.size ≤ 1048576) : Calls Tryd.prog 47 #[.string s] w (NP (namesV s) w) := by
  by_cases h0 : s.toList = []
  · have hx := Lib.hid (show namesV s = some [] by unfold namesV; rw [← Lib.toList_data, if_pos h0])
    go_enter Tryd.func47, Tryd.ntmps47
    go_wp2
    go_ret2
    exact NP.good hx.out (Below.refl _ _) rfl Rd.nil
  have h0b : s.toList.isEmpty = false := by simpa using h0
  have HC := Lib.hid (ref_cut s 32 w hs)
  have hnv : Hid (namesV s = if (blanksL s).all nameB then some (blanksL s) else none) := Lib.hid (by unfold namesV; rw [← Lib.toList_data, if_neg h0])
  have hsm : Hid (∀ x ∈ blanksL s, x.size ≤ 140737488351232) := Lib.hid fun x hx => by have := blanks_small hx; omega
  have hbnd : (blanksL s).length ≤ 140737488351232 := by have := cutL_len s 32; rw [cutL_blanks] at this; omega
  rw [cutL_blanks] at HC
  generalize blanksL s = l at *
  clear h0 hs
  go_enter Tryd.func47, Tryd.ntmps47
  go_wp2_with fail
  refine HC.out.mono ?_
  rintro e w1 ⟨hb1, A1, c1, rfl, hown⟩
  have HB1 := Lib.hid hb1
  have HR := Lib.hid (Rd.of_own hown)
  clear hb1 hown
  go_wp2
  go_loop [5] (fun i => ∃ k : Nat, k ≤ l.length ∧ i = .int .i64 k ∧ (l.take k).all nameB = true) (fun i => l.length - (intOf i).toNat)
  case atStart => exact ⟨0, Nat.zero_le _, rfl, rfl⟩
  case round =>
    obtain ⟨k, hk, rfl, hq⟩ := hrel
    have HQ := Lib.hid hq
    clear hq
    by_cases hlt : k < l.length
    · obtain ⟨ad, rfl, _, hc⟩ := RdS.at_ HR.out hlt
      have HN := Lib.hid (ref_Name (l[k]'hlt) w1 (hsm.out _ (List.getElem_mem hlt)))
      cases hn : nameB (l[k]'hlt)
      · have hx := Lib.hid (show namesV s = none by
          rw [hnv.out, if_neg]
          intro h
          rw [List.all_eq_true.1 h _ (List.getElem_mem hlt)] at hn; cases hn)
        go_wp2_with fail
        refine HN.out.mono ?_
        rintro e w2 ⟨rfl, rfl⟩
        rw [hn]
        clear hn
        go_wp2
        go_ret2
        exact NP.bad hx.out HB1.out
      · have HQ1 := Lib.hid (take_nextB hlt HQ.out hn)
        go_wp2_with fail
        refine HN.out.mono ?_
        rintro e w2 ⟨rfl, rfl⟩
        rw [hn]
        clear hn
        go_wp2
        go_round
        case rel => exact ⟨k + 1, by omega, by go_num, HQ1.out⟩
        case measure => simp [intOf]; omega
    · obtain rfl : k = l.length := by omega
      have hx := Lib.hid (show namesV s = some l by rw [hnv.out, if_pos (by have := HQ.out; rwa [List.take_of_length_le (Nat.le_refl _)] at this)])
      go_wp2
      go_ret2
      exact NP.good hx.out HB1.out rfl HR.out
theorem take_nextP {l : List Int} {k : Nat} (hk : k < l.length) {q : Int → Bool} (h : (l.take k).all q = true) (hp : q (l[k]'hk) = true) : (l.take (k + 1)).all q = true := by
  rw [List.take_succ_eq_append_getElem hk, List.all_append, h, List.all_cons, hp]; rfl
set_option maxHeartbeats 1000000 in
theorem ref_path (A : Option Addr) (l : List Int) (c : Nat) (w : World) (B : Nat) (hl : l.length ≤ 140737488355328) (hR : RdI w B A l) :
    Calls Tryd.prog 48 #[.slice A l.length c] w fun e w' => e = .returned (.bool (pathL l)) ∧ w = w' := by
  have HR := Lib.hid hR
  clear hR
  by_cases h : 63 < l.length
  · have hx := Lib.hid (show pathL l = false by unfold pathL; rw [decide_eq_false (by omega)]; rfl)
    have hd : decide (63 < (l.length : Int)) = true := by simp; omega
    clear h
    go_enter Tryd.func48, Tryd.ntmps48
    go_wp2
    go_ret
    exact ⟨by rw [hx.out]; rfl, rfl⟩
  have hd : decide (63 < (l.length : Int)) = false := by simp; omega
  have hp : Hid (pathL l = l.all (fun n => decide (0 ≤ n) && decide (n ≤ 1022))) := Lib.hid (by unfold pathL; rw [decide_eq_true (show l.length < 64 by omega)]; rfl)
  clear h
  go_enter Tryd.func48, Tryd.ntmps48
  go_wp2
  go_loop [3] (fun i => ∃ k : Nat, k ≤ l.length ∧ i = .int .i64 k ∧ (l.take k).all (fun n => decide (0 ≤ n) && decide (n ≤ 1022)) = true) (fun i => l.length - (intOf i).toNat)
  case atStart => exact ⟨0, Nat.zero_le _, rfl, rfl⟩
  case round =>
    obtain ⟨k, hk, rfl, hq⟩ := hrel
    have HQ := Lib.hid hq
    clear hq
    by_cases hlt : k < l.length
    · obtain ⟨ad, rfl, _, hc⟩ := HR.out.at_ hlt
      by_cases h1 : l[k]'hlt < 0
      · have hx := Lib.hid (show pathL l = false by
          rw [hp.out, List.all_eq_false]
          exact ⟨_, List.getElem_mem hlt, by simp; omega⟩)
        have hd1 : decide (l[k]'hlt < 0) = true := by simpa using h1
        clear h1
        go_wp2
        go_ret
        exact ⟨by rw [hx.out]; rfl, rfl⟩
      · have hd1 : decide (l[k]'hlt < 0) = false := by simpa using h1
        by_cases h2 : 1022 < l[k]'hlt
        · have hx := Lib.hid (show pathL l = false by
            rw [hp.out, List.all_eq_false]
            exact ⟨_, List.getElem_mem hlt, by simp; omega⟩)
          have hd2 : decide (1022 < l[k]'hlt) = true := by simpa using h2
          clear h1 h2
          go_wp2
          go_ret
          exact ⟨by rw [hx.out]; rfl, rfl⟩
        · have hd2 : decide (1022 < l[k]'hlt) = false := by simpa using h2
          have HN := Lib.hid (take_nextP (q := fun n => decide (0 ≤ n) && decide (n ≤ 1022)) hlt HQ.out (by simp; omega))
          clear h1 h2
          go_wp2
          go_round
          case rel => exact ⟨k + 1, by omega, by go_num, HN.out⟩
          case measure => simp [intOf]; omega
    · have hx := Lib.hid (show pathL l = true by rw [hp.out]; have := HQ.out; rwa [List.take_of_length_le (by omega)] at this)
      go_wp2
      go_ret
      exact ⟨by rw [hx.out]; rfl, rfl⟩
theorem ref_Place (f : ByteArray) (A : Option Addr) (l : List Int) (c : Nat) (w : World) (hs : f.size ≤ 140737488351232) (hl : l.length ≤ 140737488355328) (hR : RdI w w.heap.size A l) :
    Calls Tryd.prog 22 #[.agg #[.string f, .slice A l.length c]] w (Bel (.bool (placeB f l)) w) := by
  have hb0 : Below w.heap.size w (w.alloc (.cells #[.string f, .slice A l.length c] 27)) := (Below.refl _ _).alloc (Nat.le_refl _) _
  have HP : Hid (Calls Tryd.prog 48 #[.slice A l.length c] (w.alloc (.cells #[.string f, .slice A l.length c] 27)) fun e w' => e = .returned (.bool (pathL l)) ∧ (w.alloc (.cells #[.string f, .slice A l.length c] 27)) = w') :=
    Lib.hid (ref_path A l c _ w.heap.size hl (Rd.below hR hb0))
  have HB0 := Lib.hid hb0
  clear hb0 hR
  by_cases h0 : f.toList = []
  · have hf : f = ⟨#[]⟩ := bytes_ext (by rw [← Lib.toList_data]; exact h0)
    subst hf
    have hx := Lib.hid (show placeB ⟨#[]⟩ l = pathL l by simp [placeB])
    go_enter Tryd.func22, Tryd.ntmps22
    go_wp2_with fail
    refine HP.out.mono ?_
    rintro e w' ⟨rfl, rfl⟩
    go_wp2
    go_ret
    exact ⟨by rw [hx.out]; rfl, HB0.out⟩
  · have hne : f ≠ ⟨#[]⟩ := by rintro rfl; exact h0 (by rw [Lib.toList_data])
    have h0b : f.toList.isEmpty = false := by simpa using h0
    have HN := Lib.hid (ref_Name f (w.alloc (.cells #[.string f, .slice A l.length c] 27)) hs)
    cases hn : nameB f
    · have hx := Lib.hid (show placeB f l = false by simp [placeB, hn, hne])
      go_enter Tryd.func22, Tryd.ntmps22
      go_wp2_with fail
      refine HN.out.mono ?_
      rintro e w' ⟨rfl, rfl⟩
      rw [hn]
      clear hn
      go_wp2
      go_ret
      exact ⟨by rw [hx.out]; rfl, HB0.out⟩
    · have hx := Lib.hid (show placeB f l = pathL l by simp [placeB, hn])
      go_enter Tryd.func22, Tryd.ntmps22
      go_wp2_with fail
      refine HN.out.mono ?_
      rintro e w' ⟨rfl, rfl⟩
      rw [hn]
      clear hn
      go_wp2_with fail
      refine HP.out.mono ?_
      rintro e w' ⟨rfl, rfl⟩
      go_wp2
      go_ret
      exact ⟨by rw [hx.out]; rfl, HB0.out⟩
end Go.Proofs.YthkofiakfmijiaaDoor
