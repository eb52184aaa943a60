/-
  zval.Same: a walk, for any two values. Conditions: they lie in memory.
-/
import Derived.Test.YtjdpnljaichdmaaGreatDoorPlSame
import Derived.Test.YtjdpnljaichdmaaGreatDoorPlFits
namespace Go.Proofs.YtjdpnljaichdmaaGreatDoor
open Go.RowKit
set_option linter.unusedVariables false

theorem text_eqb (s t : ByteArray) : (s.toList == t.toList) = decide (s = t) := by
  rw [Bool.eq_iff_iff]
  simp only [beq_iff_eq, decide_eq_true_eq]
  rw [Lib.toList_data, Lib.toList_data]
  obtain ⟨⟨x⟩⟩ := s
  obtain ⟨⟨y⟩⟩ := t
  simp
theorem int_eqb (a b : Int) : (a == b) = decide (a = b) := by rw [Bool.eq_iff_iff]; simp
def ZSame (x : Vl) : Prop := ∀ (y : Vl) (u v : Value) (S S' : Nat → Prop) (w : World), x.is w S u → y.is w S' v → (∀ b, S b → b < w.heap.size) → (∀ b, S' b → b < w.heap.size) → x.fine → y.fine → Calls Tryz.prog 55 #[u, v] w (Bel (.bool (x.sameB y)) w)
theorem not_unit {y : Vl} {w : World} {S : Nat → Prop} {v : Value} (h : y.is w S v) (hy : y ≠ .unit) : ∃ T z, v = .iface T z ∧ T ≠ 42 := by
  cases y <;> unfold Vl.is at h
  · exact absurd rfl hy
  · exact ⟨_, _, h, by decide⟩
  · exact ⟨_, _, h, by decide⟩
  · exact ⟨_, _, h, by decide⟩
  · obtain ⟨A, c, h, _⟩ := h; exact ⟨_, _, h, by decide⟩
theorem not_truth {y : Vl} {w : World} {S : Nat → Prop} {v : Value} (h : y.is w S v) (hy : ∀ b, y ≠ .truth b) : ∃ T z, v = .iface T z ∧ T ≠ 49 := by
  cases y <;> unfold Vl.is at h
  · exact ⟨_, _, h, by decide⟩
  · exact absurd rfl (hy _)
  · exact ⟨_, _, h, by decide⟩
  · exact ⟨_, _, h, by decide⟩
  · obtain ⟨A, c, h, _⟩ := h; exact ⟨_, _, h, by decide⟩
theorem not_int {y : Vl} {w : World} {S : Nat → Prop} {v : Value} (h : y.is w S v) (hy : ∀ b, y ≠ .int b) : ∃ T z, v = .iface T z ∧ T ≠ 191 := by
  cases y <;> unfold Vl.is at h
  · exact ⟨_, _, h, by decide⟩
  · exact ⟨_, _, h, by decide⟩
  · exact absurd rfl (hy _)
  · exact ⟨_, _, h, by decide⟩
  · obtain ⟨A, c, h, _⟩ := h; exact ⟨_, _, h, by decide⟩
theorem not_text {y : Vl} {w : World} {S : Nat → Prop} {v : Value} (h : y.is w S v) (hy : ∀ b, y ≠ .text b) : ∃ T z, v = .iface T z ∧ T ≠ 107 := by
  cases y <;> unfold Vl.is at h
  · exact ⟨_, _, h, by decide⟩
  · exact ⟨_, _, h, by decide⟩
  · exact ⟨_, _, h, by decide⟩
  · exact absurd rfl (hy _)
  · obtain ⟨A, c, h, _⟩ := h; exact ⟨_, _, h, by decide⟩
theorem not_list {y : Vl} {w : World} {S : Nat → Prop} {v : Value} (h : y.is w S v) (hy : ∀ b, y ≠ .list b) : ∃ T z, v = .iface T z ∧ T ≠ 192 := by
  cases y <;> unfold Vl.is at h
  · exact ⟨_, _, h, by decide⟩
  · exact ⟨_, _, h, by decide⟩
  · exact ⟨_, _, h, by decide⟩
  · exact ⟨_, _, h, by decide⟩
  · exact absurd rfl (hy _)
set_option maxRecDepth 100000 in
set_option maxHeartbeats 4000000 in
theorem same_unit : ZSame .unit := by
  intro y u v S S' w hu hv _ _ _ _
  unfold Vl.is at hu
  subst hu
  have ha := pf_as_Unit (.agg #[])
  by_cases hy : y = .unit
  · subst hy
    unfold Vl.is at hv
    subst hv
    go_enter Tryz.func55, Tryz.ntmps55
    go_wp2
    go_ret
    exact ⟨by rfl, ((Below.refl _ _).alloc (Nat.le_refl _) _).alloc (by simp) _⟩
  · have hr := Lib.hid (show Vl.sameB .unit y = false by cases y <;> first | exact absurd rfl hy | rfl)
    obtain ⟨T, z, rfl, hT⟩ := not_unit hv hy
    have hn := pf_no_Unit T z hT
    clear hv hy
    go_enter Tryz.func55, Tryz.ntmps55
    go_wp2
    go_ret
    exact ⟨by rw [hr.out]; rfl, ((Below.refl _ _).alloc (Nat.le_refl _) _).alloc (by simp) _⟩
set_option maxRecDepth 100000 in
set_option maxHeartbeats 4000000 in
theorem same_truth (a : Bool) : ZSame (.truth a) := by
  intro y u v S S' w hu hv _ _ _ _
  unfold Vl.is at hu
  subst hu
  have hnU := pf_no_Unit 49 (.bool a) (by decide)
  have ha := fun b => pf_as_Truth (.bool b)
  by_cases hy : ∃ b, y = .truth b
  · obtain ⟨b, rfl⟩ := hy
    unfold Vl.is at hv
    subst hv
    cases a <;> cases b
    all_goals
      go_enter Tryz.func55, Tryz.ntmps55
      go_wp2
      go_ret
      exact ⟨by rfl, Below.refl _ _⟩
  · have hy' : ∀ b, y ≠ .truth b := fun b e => hy ⟨b, e⟩
    have hr := Lib.hid (show Vl.sameB (.truth a) y = false by cases y <;> first | exact absurd rfl (hy' _) | rfl)
    obtain ⟨T, z, rfl, hT⟩ := not_truth hv hy'
    have hn := pf_no_Truth T z hT
    clear hv hy hy'
    go_enter Tryz.func55, Tryz.ntmps55
    go_wp2
    go_ret
    exact ⟨by rw [hr.out]; rfl, Below.refl _ _⟩
set_option maxRecDepth 100000 in
set_option maxHeartbeats 4000000 in
theorem same_int (a : Int) : ZSame (.int a) := by
  intro y u v S S' w hu hv _ _ _ _
  unfold Vl.is at hu
  subst hu
  have hnU := pf_no_Unit 191 (.int .i64 a) (by decide)
  have hnT := pf_no_Truth 191 (.int .i64 a) (by decide)
  have ha := fun b => pf_as_Int (.int .i64 b)
  by_cases hy : ∃ b, y = .int b
  · obtain ⟨b, rfl⟩ := hy
    unfold Vl.is at hv
    subst hv
    go_enter Tryz.func55, Tryz.ntmps55
    go_wp2
    go_ret
    exact ⟨by show _ = Ending.returned (.bool (decide (a = b))); rw [← int_eqb]; rfl, Below.refl _ _⟩
  · have hy' : ∀ b, y ≠ .int b := fun b e => hy ⟨b, e⟩
    have hr := Lib.hid (show Vl.sameB (.int a) y = false by cases y <;> first | exact absurd rfl (hy' _) | rfl)
    obtain ⟨T, z, rfl, hT⟩ := not_int hv hy'
    have hn := pf_no_Int T z hT
    clear hv hy hy'
    go_enter Tryz.func55, Tryz.ntmps55
    go_wp2
    go_ret
    exact ⟨by rw [hr.out]; rfl, Below.refl _ _⟩
set_option maxRecDepth 100000 in
set_option maxHeartbeats 4000000 in
theorem same_text (a : ByteArray) : ZSame (.text a) := by
  intro y u v S S' w hu hv _ _ _ _
  unfold Vl.is at hu
  subst hu
  have hnU := pf_no_Unit 107 (.string a) (by decide)
  have hnT := pf_no_Truth 107 (.string a) (by decide)
  have hnI := pf_no_Int 107 (.string a) (by decide)
  have ha := fun b => pf_as_Text (.string b)
  by_cases hy : ∃ b, y = .text b
  · obtain ⟨b, rfl⟩ := hy
    unfold Vl.is at hv
    subst hv
    go_enter Tryz.func55, Tryz.ntmps55
    go_wp2
    go_ret
    exact ⟨by show _ = Ending.returned (.bool (decide (a = b))); rw [← text_eqb]; rfl, Below.refl _ _⟩
  · have hy' : ∀ b, y ≠ .text b := fun b e => hy ⟨b, e⟩
    have hr := Lib.hid (show Vl.sameB (.text a) y = false by cases y <;> first | exact absurd rfl (hy' _) | rfl)
    obtain ⟨T, z, rfl, hT⟩ := not_text hv hy'
    have hn := pf_no_Text T z hT
    clear hv hy hy'
    go_enter Tryz.func55, Tryz.ntmps55
    go_wp2
    go_ret
    exact ⟨by rw [hr.out]; rfl, Below.refl _ _⟩
set_option maxRecDepth 100000 in
set_option maxHeartbeats 4000000 in
theorem same_list (l : List Vl) (ih : ∀ (j : Nat) (h : j < l.length), ZSame l[j]) : ZSame (.list l) := by
  intro y u v S S' w hu hv hS hS' hf hf'
  unfold Vl.is at hu
  obtain ⟨A, c, rfl, hl⟩ := hu
  have hnU := pf_no_Unit 192 (.slice A l.length c) (by decide)
  have hnT := pf_no_Truth 192 (.slice A l.length c) (by decide)
  have hnI := pf_no_Int 192 (.slice A l.length c) (by decide)
  have hnX := pf_no_Text 192 (.slice A l.length c) (by decide)
  have ha := pf_as_List (.slice A l.length c)
  unfold Vl.fine at hf
  obtain ⟨hlen, hf⟩ := hf
  by_cases hy : ∃ m, y = .list m
  · obtain ⟨m, rfl⟩ := hy
    unfold Vl.is at hv
    obtain ⟨A', c', rfl, hl'⟩ := hv
    unfold Vl.fine at hf'
    obtain ⟨hlen', hf'⟩ := hf'
    by_cases hml : m.length = l.length
    · have HML := Lib.hid hml
      have ha' := pf_as_List (.slice A' l.length c')
      have HL := Lib.hid hl
      have HL' := Lib.hid hl'
      have HF := Lib.hid hf
      have HF' := Lib.hid hf'
      have HS := Lib.hid hS
      have HS' := Lib.hid hS'
      have IH := Lib.hid ih
      have hr := Lib.hid (show Vl.sameB (.list l) (.list m) = Vls.sameB l m by rw [Vl.sameB])
      rw [hml]
      clear hml hl hl' hf hf' hS hS' ih hlen'
      go_enter Tryz.func55, Tryz.ntmps55
      go_wp2
      go_loopw [92] (fun s92 wr => ∃ (j : Nat), j ≤ l.length ∧ s92 = .int .i64 (j : Int) ∧ Vls.sameB l m = Vls.sameB (l.drop j) (m.drop j) ∧ Below w.heap.size w wr) (fun s92 _ => l.length - (intOf s92).toNat)
      case atStart => exact ⟨0, Nat.zero_le _, rfl, rfl, Below.refl _ _⟩
      case round =>
        obtain ⟨j, hj, rfl, hsame, hbel⟩ := hrel
        have HM := Lib.hid hsame
        have HB := Lib.hid hbel
        have hws := hbel.size
        clear hsame hbel
        by_cases hlt : j < l.length
        · have hltm : j < m.length := by have := HML.out; omega
          obtain ⟨b1, o1, rfl⟩ := HL.out.head (by omega)
          obtain ⟨b2, o2, rfl⟩ := HL'.out.head (by omega)
          obtain ⟨hb1, u1, d1, hx1⟩ := (HL.out).at_ j hlt
          obtain ⟨hb2, u2, d2, hx2⟩ := (HL'.out).at_ j hltm
          have D1 := Ext.cell (w := wr) ((HB.out.cell (p := ⟨b1, o1 + j, none⟩) (HS.out _ hb1)).trans d1)
          have D2 := Ext.cell (w := wr) ((HB.out.cell (p := ⟨b2, o2 + j, none⟩) (HS'.out _ hb2)).trans d2)
          have HD := Lib.hid (Vls.sameB_drop hlt hltm)
          have KS := Lib.hid (fun x : Ext wr => IH.out j hlt m[j] u1 u2 S S' x.now
            (hx1.keep (fun b o hs => ((x.ok.cell (p := ⟨b, o, none⟩) (Nat.lt_of_lt_of_le (HS.out b hs) hws)).trans (HB.out.cell (p := ⟨b, o, none⟩) (HS.out b hs)))) (fun b h => h))
            (hx2.keep (fun b o hs => ((x.ok.cell (p := ⟨b, o, none⟩) (Nat.lt_of_lt_of_le (HS'.out b hs) hws)).trans (HB.out.cell (p := ⟨b, o, none⟩) (HS'.out b hs)))) (fun b h => h))
            (fun b hs => Nat.lt_of_lt_of_le (HS.out b hs) (Nat.le_trans hws x.ok.size)) (fun b hs => Nat.lt_of_lt_of_le (HS'.out b hs) (Nat.le_trans hws x.ok.size)) (HF.out.at_ j hlt) (HF'.out.at_ j hltm))
          obtain ⟨t1, z1, rfl⟩ := hx1.iface
          obtain ⟨t2, z2, rfl⟩ := hx2.iface
          clear hx1 hx2 d1 d2
          generalize hq : l[j].sameB m[j] = q at *
          go_wp2
          refine wp_region_ext (by kernel_rfl) (by kernel_rfl) ?_
          go_big_quiet_step (fail)
          go_big_quiet_step (fail)
          go_big_quiet_step (fail)
          go_big_quiet_step (fail)
          go_big_quiet_step (fail)
          go_big_quiet_step (fail)
          go_big_quiet_step (fail)
          go_big_quiet_step (fail)
          go_big_quiet_step ((go_at_call 55; exact Calls.ext_of (KS.out _)))
          go_big_quiet_step (fail)
          refine wpQuiet_nil ?_
          rintro _ ⟨x, rfl⟩
          have HB2 := Lib.hid (HB.out.trans (x.ok.mono HB.out.size))
          clear D1 D2 KS
          generalize x.now = w2 at *
          cases q
          · have hr2 := Lib.hid (show Vl.sameB (.list l) (.list m) = false by rw [hr.out, HM.out, HD.out]; rfl)
            go_wp2
            go_ret
            exact ⟨by rw [hr2.out]; rfl, HB2.out⟩
          · have HN := Lib.hid (show Vls.sameB l m = Vls.sameB (l.drop (j + 1)) (m.drop (j + 1)) by rw [HM.out, HD.out]; rfl)
            go_wp2
            go_roundw
            case rel => exact ⟨j + 1, by omega, by go_num, HN.out, HB2.out⟩
            case measure => simp [intOf]; omega
        · have hr2 := Lib.hid (show Vl.sameB (.list l) (.list m) = true by
            have h1 : j = l.length := by omega
            rw [hr.out, HM.out, List.drop_of_length_le (by omega), List.drop_of_length_le (by have := HML.out; omega)]
            rfl)
          go_wp2
          go_ret
          exact ⟨by rw [hr2.out]; rfl, HB.out⟩
    · have hr := Lib.hid (show Vl.sameB (.list l) (.list m) = false by
        rw [Vl.sameB]
        cases hq : Vls.sameB l m
        · rfl
        · exact absurd (Vls.sameB_len hq).symm hml)
      have ha' := pf_as_List (.slice A' m.length c')
      have hb1 : ((l.length : Int) == (m.length : Int)) = false := by simp; omega
      have hb2 : ((l.length : Int) != (m.length : Int)) = true := by simp; omega
      have hb3 : (l.length == m.length) = false := by simp; omega
      have hb4 : (l.length != m.length) = true := by simp; omega
      clear hl hl' hf hf' hS hS' ih hlen' hml
      go_enter Tryz.func55, Tryz.ntmps55
      go_wp2
      go_ret
      exact ⟨by rw [hr.out]; rfl, Below.refl _ _⟩
  · have hy' : ∀ b, y ≠ .list b := fun b e => hy ⟨b, e⟩
    have hr := Lib.hid (show Vl.sameB (.list l) y = false by cases y <;> first | exact absurd rfl (hy' _) | rfl)
    obtain ⟨T, z, rfl, hT⟩ := not_list hv hy'
    have hn := pf_no_List T z hT
    clear hv hy hy' hl hf hS hS' ih hf'
    go_enter Tryz.func55, Tryz.ntmps55
    go_wp2
    go_ret
    exact ⟨by rw [hr.out]; rfl, Below.refl _ _⟩
theorem same_all : ∀ (m : Nat) (x : Vl), SizeOf.sizeOf x ≤ m → ZSame x
  | 0, x, h => absurd h (by cases x <;> simp <;> omega)
  | m + 1, .unit, _ => same_unit
  | m + 1, .truth a, _ => same_truth a
  | m + 1, .int a, _ => same_int a
  | m + 1, .text a, _ => same_text a
  | m + 1, .list l, h => same_list l (fun j hj => same_all m l[j] (by have := Vl.size_lt hj; omega))
/-- zval.Same of any two values. -/
theorem zval_Same (x y : Vl) (u v : Value) (S S' : Nat → Prop) (w : World) (hx : x.is w S u) (hy : y.is w S' v) (hS : ∀ b, S b → b < w.heap.size) (hS' : ∀ b, S' b → b < w.heap.size) (hf : x.fine) (hf' : y.fine) :
    Calls Tryz.prog 55 #[u, v] w (Bel (.bool (x.sameB y)) w) := same_all _ x (Nat.le_refl _) y u v S S' w hx hy hS hS' hf hf'
end Go.Proofs.YtjdpnljaichdmaaGreatDoor
