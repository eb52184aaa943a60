/-
  ListCount: a walk. Conditions: none.
-/
import Derived.Test.YtcldbjgikkfnbaaGreatDoorCLaw11Begun
import Derived.Test.YtcldbjgikkfnbaaGreatDoorCPlMarks
namespace Go.Proofs.YtcldbjgikkfnbaaGreatDoor
open Go.RowKit
set_option linter.unusedVariables false

theorem lsRng {n : Int} (h : (Lit.int .i64 n).wf = true) : rng n = true := rng_of_wf h
theorem nPl_toVl (n : Int) : (nPl n).toVl = .int n := by unfold nPl; rw [toVl_mk]; rfl
theorem count_ints : ∀ ks : List Nat, Vls.count (ks.map (fun (k : Nat) => Vl.int (k : Int))) = ks.length
  | [] => rfl
  | k :: ks => by simp only [List.map_cons, Vls.count, Vl.count, count_ints ks, List.length_cons]; omega
theorem meas_ints : ∀ (ks : List Nat) (m deep : Int), (ks.length : Int) ≤ m → Vls.measure (ks.map (fun (k : Nat) => Vl.int (k : Int))) m deep = m - ks.length
  | [], m, deep, h => by simp [Vls.measure]
  | k :: ks, m, deep, h => by
    simp only [List.length_cons] at h
    have e : (Vl.int (k : Int)).measure m deep = m - 1 := by unfold Vl.measure; rfl
    rw [List.map_cons, Vls.measure, e, if_neg (by omega), meas_ints ks (m - 1) deep (by omega)]
    simp only [List.length_cons]; omega
theorem below_may {n : Nat} (h : n ≤ 65535) : (Vl.list (below n)).mayV = true := by
  unfold Vl.mayV Vl.measure
  rw [if_neg (by omega)]
  unfold below
  rw [meas_ints (List.range n) _ _ (by rw [List.length_range]; omega), List.length_range]
  simp; omega
theorem lWork_count (n : Int) : lWork ln_count [nPl n] = lCountN n := by
  have h : lRes (some 1) (lArgs1 lCount) [nPl n] = lCountN n := by
    unfold lRes
    rw [if_pos (.inr rfl), if_pos (by rw [List.all_cons, nPl_ok]; rfl)]
    show lCount (nPl n).toVl = _
    rw [nPl_toVl]
    rfl
  rw [← h]
  unfold lWork
  rw [if_neg (by decide), if_neg (by decide), if_neg (by decide), if_neg (by decide), if_neg (by decide), if_neg (by decide), if_neg (by decide), if_pos rfl]
theorem eqIn_int {P : Program} (d : Nat) {ti tp : TypeId} {ms : Array (String × TypeId)} {i : TypeInfo} {k : IntKind} (n : Int) (w : World) (hi : P.underlying ti = some (.interface ms)) (hp : P.underlying tp = some (.int k)) (hinfo : P.info? tp = some i) (hcomp : i.comparable = true) :
    (Op.equalIn (d + 2) ti (.iface tp (.int k n)) (.iface tp (.int k n))).run P w = .ok true w := by
  simp [Op.equalIn, run_underlying hi, run_underlying hp, typeInfo, hinfo, hcomp]
theorem l_eq_int (n : Int) (w : World) : (Op.equal 35 (.iface 43 (.int .i64 n)) (.iface 43 (.int .i64 n))).run Tryz.prog w = .ok true w := by
  have h1 : Tryz.prog.underlying 35 = some (.interface (Tryz.prog.methodsAt 35)) := by kernel_rfl
  obtain ⟨i, hi, hc⟩ : ∃ i, Tryz.prog.info? 43 = some i ∧ i.comparable = true := by
    have h : (Tryz.prog.info? 43).map (·.comparable) = some true := by kernel_rfl
    cases hq : Tryz.prog.info? 43 with
    | none => rw [hq] at h; cases h
    | some i => rw [hq] at h; exact ⟨i, rfl, by simpa using h⟩
  exact eqIn_int 9998 n w h1 Tryz.underlying43 hi hc
theorem l_neq_same (n : Int) (w : World) : (binOp .neq 35 (.iface 43 (.int .i64 n)) (.iface 43 (.int .i64 n))).run Tryz.prog w = .ok (.bool false) w := by
  simp [binOp, l_eq_int, go_sem]
set_option maxRecDepth 100000 in
set_option maxHeartbeats 8000000 in
theorem law_ListCount (n : Int) (hn : rng n = true) (w : World) : Calls Tryz.prog 5 #[.int .i64 n] w (Bel (.bool true) w) := by
  have KB := Lib.hid (law11_begun w)
  have KC := Lib.hid (fun w1 : World => list_Work ln_count [nPl n] (some ⟨w1.heap.size, 0, none⟩) 1 (w1.alloc (.cells #[.int .i64 3, .int .i64 n, .string ⟨#[]⟩, .slice none 0 0] 31)) (by show 1 * 56 ≤ _; decide) (by rw [size_alloc]; exact lies_nums w1 [n] (by simpa using hn)))
  simp only [lWork_count, List.length_cons, List.length_nil, Nat.zero_add] at KC
  unfold ln_count at KC
  have HN := Lib.hid hn
  clear hn
  have hun : ∀ w, (binOp .eql 35 .nilIface .nilIface).run Tryz.prog w = .ok (.bool true) w := fun w => by kernel_rfl
  by_cases h0 : n < 0
  · have e1 : lCountN n = lBad 23 := by unfold lCountN; rw [if_pos h0]
    have d0 : decide (n < 0) = true := by simpa using h0
    rw [e1] at KC
    clear h0 e1
    go_enter Tryz.func5, Tryz.ntmps5
    go_wp2_with fail
    refine KB.out.mono ?_
    rintro e w1 ⟨rfl, hb1⟩
    have HB1 := Lib.hid hb1
    clear hb1 KB
    go_wp2_with fail
    refine (law11_num n _).mono ?_
    rintro e w2 ⟨rfl, hb2⟩
    have HB2 := Lib.hid (HB1.out.trans (hb2.mono HB1.out.size))
    clear hb2
    go_wp2_with fail
    refine (KC.out w2).mono ?_
    rintro e w3 ⟨v3, rfl, _, hv3, hb3⟩
    have hv3 := hv3 (by decide)
    subst hv3
    have hs2 := HB2.out.size
    have HB3 := Lib.hid ((HB2.out.alloc hs2 _).trans (hb3.mono (by simp; omega)))
    clear hb3 hs2
    go_wp2
    go_ret
    exact ⟨rfl, HB3.out⟩
  · by_cases h6 : 65535 < n
    · have e1 : lCountN n = lBad 2 := by unfold lCountN; rw [if_neg h0, if_pos (by omega)]
      have d0 : decide (n < 0) = false := by simpa using h0
      have d6 : decide (65535 < n) = true := by simpa using h6
      rw [e1] at KC
      clear h0 e1 h6
      go_enter Tryz.func5, Tryz.ntmps5
      go_wp2_with fail
      refine KB.out.mono ?_
      rintro e w1 ⟨rfl, hb1⟩
      have HB1 := Lib.hid hb1
      clear hb1 KB
      go_wp2_with fail
      refine (law11_num n _).mono ?_
      rintro e w2 ⟨rfl, hb2⟩
      have HB2 := Lib.hid (HB1.out.trans (hb2.mono HB1.out.size))
      clear hb2
      go_wp2_with fail
      refine (KC.out w2).mono ?_
      rintro e w3 ⟨v3, rfl, _, hv3, hb3⟩
      have hv3 := hv3 (by decide)
      subst hv3
      have hs2 := HB2.out.size
      have HB3 := Lib.hid ((HB2.out.alloc hs2 _).trans (hb3.mono (by simp; omega)))
      clear hb3 hs2
      go_wp2
      go_ret
      exact ⟨rfl, HB3.out⟩
    · obtain ⟨z, hz⟩ := Int.eq_ofNat_of_zero_le (show 0 ≤ n by omega)
      have hzm : z ≤ 65535 := by omega
      have e1 : lCountN n = (0, .list (below z)) := by
        unfold lCountN
        rw [if_neg h0, if_neg (by omega), hz, Int.toNat_natCast]
        unfold lMade
        rw [below_may hzm]
        rfl
      have d0 : decide (n < 0) = false := by simpa using h0
      have d6 : decide (65535 < n) = false := by simpa using h6
      rw [e1] at KC
      have HZ := Lib.hid hz
      have HZM := Lib.hid hzm
      clear h0 e1 h6 hz hzm
      go_enter Tryz.func5, Tryz.ntmps5
      go_wp2_with fail
      refine KB.out.mono ?_
      rintro e w1 ⟨rfl, hb1⟩
      have HB1 := Lib.hid hb1
      clear hb1 KB
      go_wp2_with fail
      refine (law11_num n _).mono ?_
      rintro e w2 ⟨rfl, hb2⟩
      have HB2 := Lib.hid (HB1.out.trans (hb2.mono HB1.out.size))
      clear hb2
      go_wp2_with fail
      refine (KC.out w2).mono ?_
      rintro e w3 ⟨v3, rfl, hv3, _, hb3⟩
      have hv3 := hv3 rfl
      obtain ⟨A, c, us, rfl, hown, _, hsep⟩ := sep_asList hv3 rfl
      have hs2 := HB2.out.size
      have HB3 := Lib.hid ((HB2.out.alloc hs2 _).trans (hb3.mono (by simp; omega)))
      rw [below_length] at hown
      have HO := Lib.hid hown
      have HS := Lib.hid hsep
      have a1 := pf_as_List (.slice A z c)
      have hne : ((z : Int) != n) = false := by rw [HZ.out]; simp
      have hzb : z ≤ 140737488351232 := by have := HZM.out; omega
      clear hb3 hs2 hv3 hown hsep
      rw [below_length]
      go_wp2
      go_loop [8] (fun s8 => ∃ (k : Nat), k ≤ z ∧ s8 = .int .i64 (k : Int)) (fun s8 => z - (intOf s8).toNat)
      case atStart => exact ⟨0, Nat.zero_le _, rfl⟩
      case round =>
        obtain ⟨k, hk, rfl⟩ := hrel
        by_cases hlt : k < z
        · have hul := HS.out.length
          rw [below_length] at hul
          obtain ⟨g, rfl, hcs⟩ := own_at HO.out (by omega)
          have hx := HS.out.at_ k (by rw [below_length]; exact hlt) (by omega)
          have hb : (below z)[k]'(by rw [below_length]; exact hlt) = .int (k : Int) := by simp [below]
          rw [hb] at hx
          unfold Vl.sep at hx
          have hc := hcs k (by omega)
          rw [hx] at hc
          have hq : ∀ w, (binOp .neq 35 (.iface 43 (.int .i64 (k : Int))) (.iface 43 (.int .i64 (k : Int)))).run Tryz.prog w = .ok (.bool false) w := fun w => l_neq_same (k : Int) w
          have hg : ∀ (x y : Operand) (w : World), (eqGuard .neq 35 x y (.iface 43 (.int .i64 (k : Int))) (.iface 43 (.int .i64 (k : Int)))).run Tryz.prog w = .ok () w := fun x y w => by simp [eqGuard, go_sem]
          clear hcs hx hb hul
          go_wp2
          go_round
          case rel => exact ⟨k + 1, by omega, by go_num⟩
          case measure => simp [intOf]; omega
        · obtain rfl : k = z := by omega
          go_wp2
          go_ret
          exact ⟨rfl, HB3.out⟩
end Go.Proofs.YtcldbjgikkfnbaaGreatDoor
