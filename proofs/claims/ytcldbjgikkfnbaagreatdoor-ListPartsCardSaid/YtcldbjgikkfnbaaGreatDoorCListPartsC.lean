/-
  espalierlaw11.ListParts: a walk. Written by a program of mine (gen_lparts.py). Conditions: the values lie in memory.
-/
import Derived.Test.YtcldbjgikkfnbaaGreatDoorCListPartsB
import Derived.Test.YtcldbjgikkfnbaaGreatDoorCLawLight11
import Derived.Test.YtcldbjgikkfnbaaGreatDoorCListCountC
import Derived.Deep.RegionHeld3
import Derived.Deep.RegionLaw
import Derived.Deep.CutRange
namespace Go.Proofs.YtcldbjgikkfnbaaGreatDoor
open Go.RowKit
set_option linter.unusedVariables false

theorem lies_take {w : World} {B : Nat} : ∀ (l : List Pl) (A : Option Addr) (k : Nat), Pls.lies w B l A → Pls.lies w B (l.take k) A
  | l, A, 0, h => by rw [List.take_zero]; unfold Pls.lies; trivial
  | [], A, k + 1, h => by rw [List.take_nil]; exact h
  | p :: ps, A, k + 1, h => by
    rw [List.take_succ_cons]
    unfold Pls.lies at h ⊢
    obtain ⟨b, o, e, h1, h2⟩ := h
    exact ⟨b, o, e, h1, lies_take ps _ k h2⟩
theorem held4 {w w' : World} {P c : Nat} {l : List Pl} {A : Option Addr} (h : PAt w P l A c) (hb : Below w.heap.size w w') :
    w'.cell? ⟨P, 0, none⟩ = some (.int .i64 5) ∧ w'.cell? ⟨P, 1, none⟩ = some (.int .i64 0) ∧ w'.cell? ⟨P, 2, none⟩ = some (.string ⟨#[]⟩) ∧ w'.cell? ⟨P, 3, none⟩ = some (.slice A l.length c) ∧ Below w.heap.size w w' := by
  obtain ⟨h0, h1, h2, h3⟩ := (h.next hb).cells
  exact ⟨h0, h1, h2, h3, hb⟩
theorem light_one {l : List Pl} {A : Option Addr} {c : Nat} (w : World) (hl : Pls.lies w w.heap.size l A) (hlen : l.length * 56 ≤ 140737488351232) :
    Calls Tryz.prog 11 #[.slice (some ⟨w.heap.size, 0, none⟩) 1 1] (w.alloc (.cells #[.int .i64 5, .int .i64 0, .string ⟨#[]⟩, .slice A l.length c] 31)) (fun e w' => ∃ q, e = .returned (.bool q) ∧ Below w.heap.size w w') := by
  have h1 := ((Below.refl w.heap.size w).alloc (Nat.le_refl _) (.cells #[.int .i64 5, .int .i64 0, .string ⟨#[]⟩, .slice A l.length c] 31))
  refine (law11_light [pL l] (some ⟨w.heap.size, 0, none⟩) 1 _ (by show 1 * 56 ≤ _; decide) (by rw [size_alloc]; exact plits [(⟨pL l, A, c⟩ : PlAt)] (fun x hx => by rw [List.mem_singleton.1 hx]; exact ⟨⟨by rfl, by rfl, by show (0 : Nat) ≤ _; omega, hlen⟩, hl⟩))).mono ?_
  rintro e w' ⟨q, rfl, _, hb⟩
  exact ⟨q, rfl, h1.trans (hb.mono h1.size)⟩
set_option maxRecDepth 100000 in
set_option maxHeartbeats 8000000 in
theorem law_ListParts (ps0 : List Pl) (A : Option Addr) (c : Nat) (z : Nat) (w : World) (hz : z ≤ 65535) (h0 : ps0.length * 56 ≤ 140737488351232) (hcap : ps0.length ≤ c) (hl : Pls.lies w w.heap.size ps0 A) :
    Calls Tryz.prog 4 #[.slice A ps0.length c, .int .u16 (z : Int)] w (Bel (.bool true) w) := by
  obtain ⟨ps, hps⟩ : ∃ ps, ps = ps0.take 300 := ⟨_, rfl⟩
  have HL : Hid (Pls.lies w w.heap.size ps A) := Lib.hid (by rw [hps]; exact lies_take ps0 A 300 hl)
  have h300 : ps.length ≤ 300 := by rw [hps, List.length_take]; omega
  have hcase : Hid ((ps0.length ≤ 300 ∧ ps0.length = ps.length) ∨ (300 < ps0.length ∧ 300 = ps.length ∧ ∃ b o, A = some ⟨b, o, none⟩)) := Lib.hid (by
    rcases Nat.lt_or_ge 300 ps0.length with h | h
    · exact .inr ⟨h, by rw [hps, List.length_take]; omega, hl.head (by omega)⟩
    · exact .inl ⟨h, by rw [hps, List.length_take]; omega⟩)
  have HF := Lib.hid (HL.out.fine)
  have hlen : Hid (ps.length * 56 ≤ 140737488351232) := Lib.hid (by omega)
  clear hl hps
  go_enter Tryz.func4, Tryz.ntmps4
  go_wp2_with fail
  refine (law11_begun w).mono ?_
  rintro e w1 ⟨rfl, hb1⟩
  have HB1 := Lib.hid hb1
  clear hb1
  go_upto_if 49 with fail
  go_cut [0] from 50 to 51 (fun s0 wx => s0 = .slice A ps.length c ∧ wx = w1)
  case first =>
    rcases hcase.out with ⟨h1, h2⟩ | ⟨h1, h2, b, o, rfl⟩
    · have d3 : decide ((300 : Int) < (ps0.length : Int)) = false := by simp; omega
      have h2 := Lib.hid h2
      clear hcase
      go_wp2_with fail
      go_meet
      exact ⟨by rw [h2.out], rfl⟩
    · have d3 : decide ((300 : Int) < (ps0.length : Int)) = true := by simp; omega
      have h2 := Lib.hid h2
      have h3 : 300 ≤ c := by omega
      clear hcase
      go_wp2_with fail
      go_meet
      exact ⟨by rw [← h2.out], rfl⟩
  case rest =>
  obtain ⟨rfl, rfl⟩ := hcut
  clear hcase hcap h0
  generalize wc = w1 at *
  go_wp2_with fail
  refine (law11_of A ps.length c w1).mono ?_
  rintro e w2 ⟨rfl, hb2⟩
  have HB2 := Lib.hid (HB1.out.trans (hb2.mono HB1.out.size))
  clear hb2 HB1
  have HL2 := Lib.hid (HL.out.below HB2.out HB2.out.size)
  have HP3 : Hid (PAt (w2.alloc (.cells #[.int .i64 5, .int .i64 0, .string ⟨#[]⟩, .slice A ps.length c] 31)) w2.heap.size ps A c) := Lib.hid (PAt.new HL2.out hlen.out)
  have HB3 := Lib.hid (HB2.out.alloc HB2.out.size (.cells #[.int .i64 5, .int .i64 0, .string ⟨#[]⟩, .slice A ps.length c] 31))
  go_wp2_with fail
  have KL := Lib.hid (light_one (c := c) (w2.alloc (.cells #[.int .i64 5, .int .i64 0, .string ⟨#[]⟩, .slice A ps.length c] 31)) HP3.out.lies hlen.out)
  rw [size_alloc] at KL
  refine KL.out.mono ?_
  rintro e w4 ⟨q, rfl, hb4⟩
  replace hb4 : Below (w2.alloc (.cells #[.int .i64 5, .int .i64 0, .string ⟨#[]⟩, .slice A ps.length c] 31)).heap.size (w2.alloc (.cells #[.int .i64 5, .int .i64 0, .string ⟨#[]⟩, .slice A ps.length c] 31)) w4 := by rw [size_alloc]; exact hb4
  have HB4 := Lib.hid (HB3.out.trans (hb4.mono HB3.out.size))
  have HP4 := Lib.hid (HP3.out.next hb4)
  clear hb4 KL HP3 HB3
  generalize w2.heap.size = P at *
  cases q
  · go_wp2
    go_ret
    exact ⟨rfl, HB4.out⟩
  have KO := Lib.hid (list_Work ln_of ps A c w4 hlen.out HP4.out.lies)
  unfold ln_of at KO
  go_wp2_with fail
  refine KO.out.mono ?_
  rintro e w5 ⟨v5, rfl, hv5, hn5, hb5⟩
  have HB5 := Lib.hid (HB4.out.trans (hb5.mono HB4.out.size))
  have HP5 := Lib.hid (HP4.out.next hb5)
  have HV5 := Lib.hid hv5
  have HN5 := Lib.hid hn5
  clear hb5 hv5 hn5 KO HB4 HP4
  rcases pp_of ps with ⟨e1, he1, her⟩ | ⟨hpp, her⟩
  · unfold ln_of at her
    have hn := HN5.out
    rw [her] at hn ⊢
    rcases he1 with rfl | rfl
    · have hn := hn (by decide)
      subst hn
      clear her HN5 HV5
      unfold lBad
      go_wp2
      go_ret
      exact ⟨rfl, HB5.out⟩
    · have hn := hn (by decide)
      subst hn
      clear her HN5 HV5
      unfold lBad
      go_wp2
      go_ret
      exact ⟨rfl, HB5.out⟩
  unfold ln_of at her
  have hv6 := HV5.out
  rw [her] at hv6 ⊢
  have HV6 : Hid (VAt w5 (.list (Pls.toVl ps)) v5) := Lib.hid (Vl.is.keep (fun b o hs => rfl) (fun b hs => hs.2) _ _ ((hv6 rfl).is))
  have HPP := Lib.hid hpp
  clear her hv6 HV5 HN5 hpp
  obtain ⟨t5, y5, rfl⟩ := Vl.is.iface HV6.out
  generalize hkk : z % (ps.length + 1) = kk at *
  have hk : kk ≤ ps.length := by have h := Nat.mod_lt z (show 0 < ps.length + 1 by omega); rw [hkk] at h; omega
  have tm : Int.tmod (z : Int) ((ps.length : Int) + 1) = (kk : Int) := by
    rw [Int.tmod_eq_emod_of_nonneg (Int.natCast_nonneg z), ← hkk]; rfl
  clear hkk
  have hk3 : (kk : Int) ≤ 300 := by omega
  obtain ⟨l1, l2, l3, hG⟩ := parts_of HPP.out HF.out hk
  have G := Lib.hid hG
  clear hG HPP hk
  have KA := Lib.hid (fun (w' : World) (hb : Below w5.heap.size w5 w') => show Calls Tryz.prog 12 #[.string ⟨#[108, 105, 115, 116, 46, 99, 117, 116]⟩, .slice (some ⟨w'.heap.size, 0, none⟩) 3 3] (w'.alloc (.cells #[.int .i64 5, .int .i64 0, .string ⟨#[]⟩, .slice A ps.length c, .int .i64 3, .int .i64 0, .string ⟨#[]⟩, .slice none 0 0, .int .i64 3, .int .i64 (kk : Int), .string ⟨#[]⟩, .slice none 0 0] 31)) (WGood (.list (Pls.toVl l1)) w') from work_3 ln_cut ⟨pL ps, A, c⟩ (nAt 0) (nAt kk) _ w' G.out.cut1 (HP5.out.next hb).at_ (nAt_ _ (by rfl)) (nAt_ _ (rng_iff.2 (by omega))))
  have KB := Lib.hid (fun (w' : World) (hb : Below w5.heap.size w5 w') => show Calls Tryz.prog 12 #[.string ⟨#[108, 105, 115, 116, 46, 99, 117, 116]⟩, .slice (some ⟨w'.heap.size, 0, none⟩) 3 3] (w'.alloc (.cells #[.int .i64 5, .int .i64 0, .string ⟨#[]⟩, .slice A ps.length c, .int .i64 3, .int .i64 (kk : Int), .string ⟨#[]⟩, .slice none 0 0, .int .i64 3, .int .i64 (ps.length : Int), .string ⟨#[]⟩, .slice none 0 0] 31)) (WGood (.list (Pls.toVl l2)) w') from work_3 ln_cut ⟨pL ps, A, c⟩ (nAt kk) (nAt ps.length) _ w' G.out.cut2 (HP5.out.next hb).at_ (nAt_ _ (rng_iff.2 (by omega))) (nAt_ _ (rng_iff.2 (by omega))))
  go_upto_region 13 with fail
  go_cut [11, 12, 13] from 84 to 93 (fun r1 r2 r3 wx => ∃ t y, r1 = .iface t y ∧ r2 = .int .i64 0 ∧ r3 = .string ⟨#[]⟩ ∧ VAt wx (.list (Pls.toVl l1)) (.iface t y) ∧ Below w5.heap.size w5 wx)
  case first =>
    have HN0 : Below w5.heap.size w5 w5.drew := (Below.refl _ _).drew
    clear tm hk3
    go_region_held3 (fun w' => w'.cell? ⟨P, 0, none⟩ = some (.int .i64 5) ∧ w'.cell? ⟨P, 1, none⟩ = some (.int .i64 0) ∧ w'.cell? ⟨P, 2, none⟩ = some (.string ⟨#[]⟩) ∧ w'.cell? ⟨P, 3, none⟩ = some (.slice A ps.length c) ∧ Below w5.heap.size w5 w')
      ((refine held4 HP5.out ?_; first | exact HN0 | exact HNa | exact HNb | exact HNb.alloc HNb.size _ | exact HNa.alloc HNa.size _ | exact HNd))
      (first
        | ((go_at_call 13; refine (law11_num (0) _).mono ?_; rintro e wa ⟨rfl, hbn⟩; have HNa := HN0.trans (hbn.mono HN0.size); clear hbn))
        | ((go_at_call 13; refine (law11_num (kk) _).mono ?_; rintro e wb ⟨rfl, hbn⟩; have HNb := HNa.trans (hbn.mono HNa.size); clear hbn))
        | ((go_at_call 12; refine (KA.out _ HNb).mono ?_; rintro e wd ⟨v, rfl, hv, hbd⟩; have HNd := HNb.trans (hbd.mono HNb.size); have HVd := Lib.hid hv; clear hbd hv)))
    all_goals
      go_wp2_with fail
      go_meet
      obtain ⟨t, y, e⟩ := Vl.is.iface HVd.out
      exact ⟨t, y, e, rfl, rfl, by rw [← e]; exact HVd.out, HNd⟩
  case rest =>
  obtain ⟨ta, ya, rfl, rfl, rfl, hva, hba⟩ := hcut
  have HA6 := Lib.hid hva
  have HB6 := Lib.hid (HB5.out.trans (hba.mono HB5.out.size))
  have HP6 := Lib.hid (HP5.out.next hba)
  have HV7 := Lib.hid (HV6.out.next hba)
  have KB6 := Lib.hid (fun (w' : World) (hb : Below wc.heap.size wc w') => KB.out w' (hba.trans (hb.mono hba.size)))
  clear hva hba HB5 HP5 HV6 KB
  generalize wc = w6 at *
  go_upto_region 14 with fail
  go_cut [14, 15, 16] from 94 to 104 (fun r1 r2 r3 wx => ∃ t y, r1 = .iface t y ∧ r2 = .int .i64 0 ∧ r3 = .string ⟨#[]⟩ ∧ VAt wx (.list (Pls.toVl l2)) (.iface t y) ∧ Below w6.heap.size w6 wx)
  case first =>
    have HN0 : Below w6.heap.size w6 w6.drew := (Below.refl _ _).drew
    clear tm hk3
    go_region_held3 (fun w' => w'.cell? ⟨P, 0, none⟩ = some (.int .i64 5) ∧ w'.cell? ⟨P, 1, none⟩ = some (.int .i64 0) ∧ w'.cell? ⟨P, 2, none⟩ = some (.string ⟨#[]⟩) ∧ w'.cell? ⟨P, 3, none⟩ = some (.slice A ps.length c) ∧ Below w6.heap.size w6 w')
      ((refine held4 HP6.out ?_; first | exact HN0 | exact HNa | exact HNb | exact HNb.alloc HNb.size _ | exact HNa.alloc HNa.size _ | exact HNd))
      (first
        | ((go_at_call 13; refine (law11_num (kk) _).mono ?_; rintro e wa ⟨rfl, hbn⟩; have HNa := HN0.trans (hbn.mono HN0.size); clear hbn))
        | ((go_at_call 13; refine (law11_num (ps.length) _).mono ?_; rintro e wb ⟨rfl, hbn⟩; have HNb := HNa.trans (hbn.mono HNa.size); clear hbn))
        | ((go_at_call 12; refine (KB6.out _ HNb).mono ?_; rintro e wd ⟨v, rfl, hv, hbd⟩; have HNd := HNb.trans (hbd.mono HNb.size); have HVd := Lib.hid hv; clear hbd hv)))
    all_goals
      go_wp2_with fail
      go_meet
      obtain ⟨t, y, e⟩ := Vl.is.iface HVd.out
      exact ⟨t, y, e, rfl, rfl, by rw [← e]; exact HVd.out, HNd⟩
  case rest =>
  obtain ⟨tb, yb, rfl, rfl, rfl, hvb, hbb⟩ := hcut
  have HC7 := Lib.hid hvb
  have HA7 := Lib.hid (HA6.out.next hbb)
  have HB7 := Lib.hid (HB6.out.trans (hbb.mono HB6.out.size))
  have HP7 := Lib.hid (HP6.out.next hbb)
  have HV8 := Lib.hid (HV7.out.next hbb)
  clear hvb hbb HA6 HB6 HP6 HV7 KB6 KA
  generalize wc = w7 at *
  have Q := Lib.hid (plain_good G.out.p1 G.out.f1 w7 HA7.out)
  go_wp2_with fail
  refine Q.out.mono ?_
  rintro e wq ⟨A10, c10, rfl, hlq, hbq⟩
  have hb9 := hbq.alloc hbq.size (.cells #[.int .i64 5, .int .i64 0, .string ⟨#[]⟩, .slice A10 l1.length c10] 31)
  have HX10 := Lib.hid (PAt.new (c := c10) hlq G.out.p1.size)
  clear Q hlq
  have FB11 := Lib.hid (HB7.out.trans (hb9.mono HB7.out.size))
  have FP11 := Lib.hid (HP7.out.next hb9)
  have FV11 := Lib.hid (HV8.out.next hb9)
  have FC11 := Lib.hid (HC7.out.next hb9)
  clear HB7 HP7 HV8 HA7 HC7
  clear hb9 hbq
  go_upto_region 16 with fail
  generalize hwq : wq.alloc (.cells #[.int .i64 5, .int .i64 0, .string ⟨#[]⟩, .slice A10 l1.length c10] 31) = w10 at *
  clear hwq
  generalize wq.heap.size = P10 at *
  have Q := Lib.hid (plain_good G.out.p2 G.out.f2 w10 FC11.out)
  go_wp2_with fail
  refine Q.out.mono ?_
  rintro e wq ⟨A12, c12, rfl, hlq, hbq⟩
  have hb9 := hbq.alloc hbq.size (.cells #[.int .i64 5, .int .i64 0, .string ⟨#[]⟩, .slice A12 l2.length c12] 31)
  have HX12 := Lib.hid (PAt.new (c := c12) hlq G.out.p2.size)
  clear Q hlq
  have FB13 := Lib.hid (FB11.out.trans (hb9.mono FB11.out.size))
  have FP13 := Lib.hid (FP11.out.next hb9)
  have FV13 := Lib.hid (FV11.out.next hb9)
  have FX13 := Lib.hid (HX10.out.next hb9)
  clear FB11 FP11 FV11 FC11 HX10
  clear hb9 hbq
  go_upto_region 19 with fail
  generalize hwq : wq.alloc (.cells #[.int .i64 5, .int .i64 0, .string ⟨#[]⟩, .slice A12 l2.length c12] 31) = w12 at *
  clear hwq
  generalize wq.heap.size = P12 at *
  obtain ⟨eX0, eX1, eX2, eX3⟩ := FX13.out.cells
  obtain ⟨eY0, eY1, eY2, eY3⟩ := HX12.out.cells
  have Q : Hid (Calls Tryz.prog 12 #[.string ⟨#[108, 105, 115, 116, 46, 106, 111, 105, 110]⟩, .slice (some ⟨w12.heap.size, 0, none⟩) 2 2] (w12.alloc (.cells #[.int .i64 5, .int .i64 0, .string ⟨#[]⟩, .slice A10 l1.length c10, .int .i64 5, .int .i64 0, .string ⟨#[]⟩, .slice A12 l2.length c12] 31)) (WGood (.list (Pls.toVl ps)) w12)) := Lib.hid (work_2 ln_join ⟨pL l1, A10, c10⟩ ⟨pL l2, A12, c12⟩ _ w12 G.out.join FX13.out.at_ HX12.out.at_)
  go_wp2_with fail
  refine Q.out.mono ?_
  rintro e w14 ⟨v14, rfl, hv, hb9⟩
  have HW14 := Lib.hid hv
  clear Q hv eX0 eX1 eX2 eX3 eY0 eY1 eY2 eY3
  have FB15 := Lib.hid (FB13.out.trans (hb9.mono FB13.out.size))
  have FP15 := Lib.hid (FP13.out.next hb9)
  have FV15 := Lib.hid (FV13.out.next hb9)
  have FX15 := Lib.hid (FX13.out.next hb9)
  have FY15 := Lib.hid (HX12.out.next hb9)
  clear FB13 FP13 FV13 FX13 HX12
  clear hb9
  go_upto_region 20 with fail
  obtain ⟨eP0, eP1, eP2, eP3⟩ := FP15.out.cells
  have Q : Hid (Calls Tryz.prog 12 #[.string ⟨#[108, 105, 115, 116, 46, 115, 105, 122, 101]⟩, .slice (some ⟨w14.heap.size, 0, none⟩) 1 1] (w14.alloc (.cells #[.int .i64 5, .int .i64 0, .string ⟨#[]⟩, .slice A ps.length c] 31)) (WGood (.int (ps.length : Int)) w14)) := Lib.hid (work_1 ln_size ⟨pL ps, A, c⟩ _ w14 G.out.size FP15.out.at_)
  go_wp2_with fail
  refine Q.out.mono ?_
  rintro e w16 ⟨v16, rfl, hv, hb9⟩
  have HW16 := Lib.hid hv
  clear Q hv eP0 eP1 eP2 eP3
  have FB17 := Lib.hid (FB15.out.trans (hb9.mono FB15.out.size))
  have FP17 := Lib.hid (FP15.out.next hb9)
  have FV17 := Lib.hid (FV15.out.next hb9)
  have FX17 := Lib.hid (FX15.out.next hb9)
  have FY17 := Lib.hid (FY15.out.next hb9)
  have FJ17 := Lib.hid (HW14.out.next hb9)
  clear FB15 FP15 FV15 FX15 FY15 HW14
  clear hb9
  go_upto_region 21 with fail
  obtain ⟨eP0, eP1, eP2, eP3⟩ := FP17.out.cells
  have Q : Hid (Calls Tryz.prog 12 #[.string ⟨#[108, 105, 115, 116, 46, 116, 117, 114, 110]⟩, .slice (some ⟨w16.heap.size, 0, none⟩) 1 1] (w16.alloc (.cells #[.int .i64 5, .int .i64 0, .string ⟨#[]⟩, .slice A ps.length c] 31)) (WGood (.list (Pls.toVl l3)) w16)) := Lib.hid (work_1 ln_turn ⟨pL ps, A, c⟩ _ w16 G.out.turn FP17.out.at_)
  go_wp2_with fail
  refine Q.out.mono ?_
  rintro e w18 ⟨v18, rfl, hv, hb9⟩
  have HW18 := Lib.hid hv
  clear Q hv eP0 eP1 eP2 eP3
  have FB19 := Lib.hid (FB17.out.trans (hb9.mono FB17.out.size))
  have FP19 := Lib.hid (FP17.out.next hb9)
  have FV19 := Lib.hid (FV17.out.next hb9)
  have FX19 := Lib.hid (FX17.out.next hb9)
  have FY19 := Lib.hid (FY17.out.next hb9)
  have FJ19 := Lib.hid (FJ17.out.next hb9)
  have FS19 := Lib.hid (HW16.out.next hb9)
  clear FB17 FP17 FV17 FX17 FY17 FJ17 HW16
  clear hb9
  go_upto_region 22 with fail
  have Q := Lib.hid (plain_good G.out.p3 G.out.f3 w18 HW18.out)
  go_wp2_with fail
  refine Q.out.mono ?_
  rintro e wq ⟨A20, c20, rfl, hlq, hbq⟩
  have hb9 := hbq.alloc hbq.size (.cells #[.int .i64 5, .int .i64 0, .string ⟨#[]⟩, .slice A20 l3.length c20] 31)
  have HX20 := Lib.hid (PAt.new (c := c20) hlq G.out.p3.size)
  clear Q hlq
  have FB21 := Lib.hid (FB19.out.trans (hb9.mono FB19.out.size))
  have FP21 := Lib.hid (FP19.out.next hb9)
  have FV21 := Lib.hid (FV19.out.next hb9)
  have FX21 := Lib.hid (FX19.out.next hb9)
  have FY21 := Lib.hid (FY19.out.next hb9)
  have FJ21 := Lib.hid (FJ19.out.next hb9)
  have FS21 := Lib.hid (FS19.out.next hb9)
  clear FB19 FP19 FV19 FX19 FY19 FJ19 FS19 HW18
  clear hb9 hbq
  go_upto_region 23 with fail
  generalize hwq : wq.alloc (.cells #[.int .i64 5, .int .i64 0, .string ⟨#[]⟩, .slice A20 l3.length c20] 31) = w20 at *
  clear hwq
  generalize wq.heap.size = P20 at *
  have hse := FS21.out
  unfold VAt Vl.is at hse
  subst hse
  clear FS21
  have hneq : ∀ w, (binOp .neq 35 (.iface 43 (.int .i64 (ps.length : Int))) (.iface 43 (.int .i64 (ps.length : Int)))).run Tryz.prog w = .ok (.bool false) w := fun w => l_neq_same _ w
  have hn1 : ((l1.length : Int) != (kk : Int)) = false := by rw [G.out.n1]; simp
  obtain ⟨eP0, eP1, eP2, eP3⟩ := FP21.out.cells
  have Q := Lib.hid (is_good G.out.p G.out.f w20 FV21.out A c FP21.out.lies)
  go_wp2_with fail
  refine Q.out.mono ?_
  rintro e w22 ⟨rfl, hb9⟩
  clear Q eP0 eP1 eP2 eP3
  have FB23 := Lib.hid (FB21.out.trans (hb9.mono FB21.out.size))
  have FP23 := Lib.hid (FP21.out.next hb9)
  have FX23 := Lib.hid (FX21.out.next hb9)
  have FY23 := Lib.hid (FY21.out.next hb9)
  have FJ23 := Lib.hid (FJ21.out.next hb9)
  have FU23 := Lib.hid (HX20.out.next hb9)
  clear FB21 FP21 FV21 FX21 FY21 FJ21 HX20
  clear hb9
  obtain ⟨eP0, eP1, eP2, eP3⟩ := FP23.out.cells
  have Q := Lib.hid (is_good G.out.p G.out.f w22 FJ23.out A c FP23.out.lies)
  go_wp2_with fail
  refine Q.out.mono ?_
  rintro e w24 ⟨rfl, hb9⟩
  clear Q eP0 eP1 eP2 eP3
  have FB25 := Lib.hid (FB23.out.trans (hb9.mono FB23.out.size))
  have FP25 := Lib.hid (FP23.out.next hb9)
  have FX25 := Lib.hid (FX23.out.next hb9)
  have FY25 := Lib.hid (FY23.out.next hb9)
  have FU25 := Lib.hid (FU23.out.next hb9)
  clear FB23 FP23 FX23 FY23 FJ23 FU23
  clear hb9
  obtain ⟨eX0, eX1, eX2, eX3⟩ := FX25.out.cells
  go_upto_region 25 with fail
  clear hneq hn1 eX0 eX1 eX2 eX3
  obtain ⟨eU0, eU1, eU2, eU3⟩ := FU25.out.cells
  have Q : Hid (Calls Tryz.prog 12 #[.string ⟨#[108, 105, 115, 116, 46, 116, 117, 114, 110]⟩, .slice (some ⟨w24.heap.size, 0, none⟩) 1 1] (w24.alloc (.cells #[.int .i64 5, .int .i64 0, .string ⟨#[]⟩, .slice A20 l3.length c20] 31)) (WGood (.list (Pls.toVl ps)) w24)) := Lib.hid (work_1 ln_turn ⟨pL l3, A20, c20⟩ _ w24 G.out.back FU25.out.at_)
  go_wp2_with fail
  refine Q.out.mono ?_
  rintro e w26 ⟨v26, rfl, hv, hb9⟩
  have HW26 := Lib.hid hv
  clear Q hv eU0 eU1 eU2 eU3
  have FB27 := Lib.hid (FB25.out.trans (hb9.mono FB25.out.size))
  have FP27 := Lib.hid (FP25.out.next hb9)
  have FU27 := Lib.hid (FU25.out.next hb9)
  clear FB25 FP25 FX25 FY25 FU25
  clear hb9
  go_upto_region 26 with fail
  obtain ⟨eP0, eP1, eP2, eP3⟩ := FP27.out.cells
  have Q := Lib.hid (is_good G.out.p G.out.f w26 HW26.out A c FP27.out.lies)
  go_wp2_with fail
  refine Q.out.mono ?_
  rintro e w28 ⟨rfl, hb9⟩
  clear Q eP0 eP1 eP2 eP3
  have FB29 := Lib.hid (FB27.out.trans (hb9.mono FB27.out.size))
  have FP29 := Lib.hid (FP27.out.next hb9)
  have FU29 := Lib.hid (FU27.out.next hb9)
  clear FB27 FP27 FU27 HW26
  clear hb9
  go_wp2_with fail
  refine (law11_of none 0 0 _).mono ?_
  rintro e wM ⟨rfl, hb9⟩
  have FB30 := Lib.hid (FB29.out.trans (hb9.mono FB29.out.size))
  have FP30 := Lib.hid (FP29.out.next hb9)
  have FU30 := Lib.hid (FU29.out.next hb9)
  clear FB29 FP29 FU29
  clear hb9
  go_upto_region 29 with fail
  have HY0 := Lib.hid (AllAt.new wM)
  have HBL := Lib.hid ((Below.refl wM.heap.size wM).alloc (Nat.le_refl _) (.cells #[.int .i64 5, .int .i64 0, .string ⟨#[]⟩, .slice none 0 0] 31))
  generalize wM.alloc (.cells #[.int .i64 5, .int .i64 0, .string ⟨#[]⟩, .slice none 0 0] 31) = wN at *
  obtain ⟨Q, hQ⟩ : ∃ Q, wM.heap.size = Q := ⟨_, rfl⟩
  rw [hQ] at HY0 HBL ⊢
  have HQ := Lib.hid hQ
  clear hQ
  go_wp2
  go_loopw [35] (fun s35 wr => ∃ (k : Nat) (lk : List Pl) (Aa : Option Addr) (ca : Nat), k ≤ ps.length ∧ s35 = .int .i64 (k : Int) ∧ lk = ps.take k ∧ AllAt wr Q lk Aa ca ∧ Below wM.heap.size wM wr) (fun s35 _ => ps.length - (intOf s35).toNat)
  case atStart => exact ⟨0, [], none, 0, Nat.zero_le _, rfl, by simp, HY0.out, by rw [HQ.out]; exact HBL.out⟩
  case round =>
  obtain ⟨k, lk, Aa, ca, hk, rfl, hlk, hall, hbel⟩ := hrel
  have HLK := Lib.hid hlk
  have LB0 := Lib.hid hbel
  have LP0 := Lib.hid (FP30.out.next hbel)
  have LU0 := Lib.hid (FU30.out.next hbel)
  have LY0 := Lib.hid hall
  clear hlk hall hbel HY0 HBL
  by_cases hlt : k < ps.length
  · obtain ⟨lk1, hE⟩ := elem_of G.out HF.out hlt HLK.out
    have E := Lib.hid hE
    obtain ⟨b, o, rfl⟩ : ∃ b o, A = some ⟨b, o, none⟩ := LP0.out.lies.head (by omega)
    have HE : Hid (∀ w', PAt w' P ps (some ⟨b, o, none⟩) c → ps[k].lies w' w'.heap.size b (o + k * 4)) := Lib.hid (fun w' h => h.lies.at_ k hlt)
    clear hE
    generalize ps[k] = x at E HE
    have KQ := Lib.hid (fun (w' : World) (hb : Below wr.heap.size wr w') => show Calls Tryz.prog 12 #[.string ⟨#[108, 105, 115, 116, 46, 97, 116]⟩, .slice (some ⟨w'.heap.size, 0, none⟩) 2 2] (w'.alloc (.cells #[.int .i64 5, .int .i64 0, .string ⟨#[]⟩, .slice (some ⟨b, o, none⟩) ps.length c, .int .i64 3, .int .i64 ((k : Int)), .string ⟨#[]⟩, .slice none 0 0] 31)) (WGood (x.toVl) w') from work_2 ln_at ⟨pL ps, (some ⟨b, o, none⟩), c⟩ (nAt ((k : Int))) _ w' E.out.at1 (LP0.out.next hb).at_ (nAt_ _ (rng_iff.2 (by omega))))
    go_upto_region 32 with fail
    go_cut [36, 37, 38] from 211 to 283 (fun r1 r2 r3 wx => ∃ t y, r1 = .iface t y ∧ r2 = .int .i64 0 ∧ r3 = .string ⟨#[]⟩ ∧ VAt wx (x.toVl) (.iface t y) ∧ Below wr.heap.size wr wx)
    case first =>
      have HN0 : Below wr.heap.size wr wr.drew := (Below.refl _ _).drew
      
      go_region_held3 (fun w' => w'.cell? ⟨P, 0, none⟩ = some (.int .i64 5) ∧ w'.cell? ⟨P, 1, none⟩ = some (.int .i64 0) ∧ w'.cell? ⟨P, 2, none⟩ = some (.string ⟨#[]⟩) ∧ w'.cell? ⟨P, 3, none⟩ = some (.slice (some ⟨b, o, none⟩) ps.length c) ∧ Below wr.heap.size wr w')
        ((refine held4 LP0.out ?_; first | exact HN0 | exact HNa | exact HNb | exact HNb.alloc HNb.size _ | exact HNa.alloc HNa.size _ | exact HNd))
        (first
          | ((go_at_call 13; refine (law11_num ((k : Int)) _).mono ?_; rintro e wa ⟨rfl, hbn⟩; have HNa := HN0.trans (hbn.mono HN0.size); clear hbn))
          | ((go_at_call 12; refine (KQ.out _ HNa).mono ?_; rintro e wd ⟨v, rfl, hv, hbd⟩; have HNd := HNa.trans (hbd.mono HNa.size); have HVd := Lib.hid hv; clear hbd hv)))
      all_goals
        go_wp2_with fail
        go_meet
        obtain ⟨t, y, e⟩ := Vl.is.iface HVd.out
        exact ⟨t, y, e, rfl, rfl, by rw [← e]; exact HVd.out, HNd⟩
    case rest =>
    obtain ⟨t31, y31, rfl, rfl, rfl, hva, hb9⟩ := hcut
    have LV31 := Lib.hid hva
    clear hva KQ
    have FB32 := Lib.hid (LB0.out.trans (hb9.mono LB0.out.size))
    have FP32 := Lib.hid (LP0.out.next hb9)
    have FU32 := Lib.hid (LU0.out.next hb9)
    have FY32 := Lib.hid (LY0.out.next hb9)
    clear LB0 LP0 LU0 LY0
    clear hb9
    generalize wc = w32 at *
    have hwr : Hid (IntKind.i64.wrap (IntKind.i64.wrap ((ps.length : Int) - 1) - (k : Int)) = (ps.length : Int) - 1 - (k : Int)) := Lib.hid (by rw [IntWalk.i64_in ((ps.length : Int) - 1) (by omega), IntWalk.i64_in ((ps.length : Int) - 1 - (k : Int)) (by omega)])
    have KQ := Lib.hid (fun (w' : World) (hb : Below w32.heap.size w32 w') => show Calls Tryz.prog 12 #[.string ⟨#[108, 105, 115, 116, 46, 97, 116]⟩, .slice (some ⟨w'.heap.size, 0, none⟩) 2 2] (w'.alloc (.cells #[.int .i64 5, .int .i64 0, .string ⟨#[]⟩, .slice A20 l3.length c20, .int .i64 3, .int .i64 ((ps.length : Int) - 1 - (k : Int)), .string ⟨#[]⟩, .slice none 0 0] 31)) (WGood (x.toVl) w') from work_2 ln_at ⟨pL l3, A20, c20⟩ (nAt ((ps.length : Int) - 1 - (k : Int))) _ w' E.out.at2 (FU32.out.next hb).at_ (nAt_ _ (rng_iff.2 (by omega))))
    go_upto_region 33 with fail
    go_cut [39, 40, 41] from 211 to 283 (fun r1 r2 r3 wx => ∃ t y, r1 = .iface t y ∧ r2 = .int .i64 0 ∧ r3 = .string ⟨#[]⟩ ∧ VAt wx (x.toVl) (.iface t y) ∧ Below w32.heap.size w32 wx)
    case first =>
      have HN0 : Below w32.heap.size w32 w32.drew := (Below.refl _ _).drew
      
      go_region_held3 (fun w' => w'.cell? ⟨P20, 0, none⟩ = some (.int .i64 5) ∧ w'.cell? ⟨P20, 1, none⟩ = some (.int .i64 0) ∧ w'.cell? ⟨P20, 2, none⟩ = some (.string ⟨#[]⟩) ∧ w'.cell? ⟨P20, 3, none⟩ = some (.slice A20 l3.length c20) ∧ Below w32.heap.size w32 w')
        ((refine held4 FU32.out ?_; first | exact HN0 | exact HNa | exact HNb | exact HNb.alloc HNb.size _ | exact HNa.alloc HNa.size _ | exact HNd))
        (first
          | ((go_at_call 13; rw [hwr.out]; refine (law11_num ((ps.length : Int) - 1 - (k : Int)) _).mono ?_; rintro e wa ⟨rfl, hbn⟩; have HNa := HN0.trans (hbn.mono HN0.size); clear hbn))
          | ((go_at_call 12; refine (KQ.out _ HNa).mono ?_; rintro e wd ⟨v, rfl, hv, hbd⟩; have HNd := HNa.trans (hbd.mono HNa.size); have HVd := Lib.hid hv; clear hbd hv)))
      all_goals
        go_wp2_with fail
        go_meet
        obtain ⟨t, y, e⟩ := Vl.is.iface HVd.out
        exact ⟨t, y, e, rfl, rfl, by rw [← e]; exact HVd.out, HNd⟩
    case rest =>
    obtain ⟨t33, y33, rfl, rfl, rfl, hva, hb9⟩ := hcut
    have LV33 := Lib.hid hva
    clear hva KQ
    have FB34 := Lib.hid (FB32.out.trans (hb9.mono FB32.out.size))
    have FP34 := Lib.hid (FP32.out.next hb9)
    have FU34 := Lib.hid (FU32.out.next hb9)
    have FY34 := Lib.hid (FY32.out.next hb9)
    have FW34 := Lib.hid (LV31.out.next hb9)
    clear FB32 FP32 FU32 FY32 LV31
    clear hb9
    generalize wc = w34 at *
    obtain ⟨hbb, e0, e1, e2, hlen2, A', c', e3, hll⟩ := (HE.out _ FP34.out).parts
    have QI := Lib.hid (is_elem E.out.back E.out.fine E.out.bounds w34 FW34.out A' c' hll)
    clear hll hbb hlen2
    go_wp2_with fail
    refine QI.out.mono ?_
    rintro e w35 ⟨rfl, hb9⟩
    clear QI e0 e1 e2 e3
    have FB36 := Lib.hid (FB34.out.trans (hb9.mono FB34.out.size))
    have FP36 := Lib.hid (FP34.out.next hb9)
    have FU36 := Lib.hid (FU34.out.next hb9)
    have FY36 := Lib.hid (FY34.out.next hb9)
    have FZ36 := Lib.hid (LV33.out.next hb9)
    clear FB34 FP34 FU34 FY34 FW34 LV33
    clear hb9
    obtain ⟨hbb, e0, e1, e2, hlen2, A', c', e3, hll⟩ := (HE.out _ FP36.out).parts
    have QI := Lib.hid (is_elem E.out.back E.out.fine E.out.bounds w35 FZ36.out A' c' hll)
    clear hll hbb hlen2
    go_wp2_with fail
    refine QI.out.mono ?_
    rintro e w37 ⟨rfl, hb9⟩
    clear QI e0 e1 e2 e3
    have FB38 := Lib.hid (FB36.out.trans (hb9.mono FB36.out.size))
    have FP38 := Lib.hid (FP36.out.next hb9)
    have FU38 := Lib.hid (FU36.out.next hb9)
    have FY38 := Lib.hid (FY36.out.next hb9)
    clear FB36 FP36 FU36 FY36 FZ36
    clear hb9
    go_upto_region 36 with fail
    obtain ⟨hbb, e0, e1, e2, hlen2, A', c', e3, hll⟩ := (HE.out _ FP38.out).parts
    have hsx := (HE.out _ FP38.out).sane
    have KD := Lib.hid (fun (w' : World) (hb : Below w37.heap.size w37 w') => show Calls Tryz.prog 12 #[.string ⟨#[108, 105, 115, 116, 46, 97, 100, 100]⟩, .slice (some ⟨w'.heap.size, 0, none⟩) 2 2] (w'.alloc (.cells #[.int .i64 5, .int .i64 0, .string ⟨#[]⟩, .slice Aa lk.length ca, .int .i64 x.kind, .int .i64 x.num, .string x.text, .slice A' x.list.length c'] 31)) (WGood (.list (Pls.toVl lk1)) w') from work_2 ln_add ⟨pL lk, Aa, ca⟩ ⟨x, A', c'⟩ _ w' E.out.add ((FY38.out.next hb).pat E.out.pk.size).at_ ⟨hsx, hll.below hb hb.size⟩)
    clear hll hsx hbb hlen2
    go_cut [42, 43, 44] from 211 to 283 (fun r1 r2 r3 wx => ∃ t y, r1 = .iface t y ∧ r2 = .int .i64 0 ∧ r3 = .string ⟨#[]⟩ ∧ VAt wx (.list (Pls.toVl lk1)) (.iface t y) ∧ Below w37.heap.size w37 wx)
    case first =>
      have HN0 : Below w37.heap.size w37 w37.drew := (Below.refl _ _).drew
      go_region_held3 (fun w' => w'.cell? ⟨Q, 0, none⟩ = some (.int .i64 5) ∧ w'.cell? ⟨Q, 1, none⟩ = some (.int .i64 0) ∧ w'.cell? ⟨Q, 2, none⟩ = some (.string ⟨#[]⟩) ∧ w'.cell? ⟨Q, 3, none⟩ = some (.slice Aa lk.length ca) ∧ w'.cell? ⟨b, o + k * 4, none⟩ = some (.int .i64 x.kind) ∧ w'.cell? ⟨b, o + k * 4 + 1, none⟩ = some (.int .i64 x.num) ∧ w'.cell? ⟨b, o + k * 4 + 2, none⟩ = some (.string x.text) ∧ w'.cell? ⟨b, o + k * 4 + 3, none⟩ = some (.slice A' x.list.length c') ∧ Below w37.heap.size w37 w')
        ((refine held8 FY38.out e0 e1 e2 e3 ?_; first | exact HN0 | exact HN0.alloc HN0.size _ | exact HNd))
        (first
          | ((go_at_call 12; refine (KD.out _ HN0).mono ?_; rintro e wd ⟨v, rfl, hv, hbd⟩; have HNd := HN0.trans (hbd.mono HN0.size); have HVd := Lib.hid hv; clear hbd hv)))
      all_goals
        go_wp2_with fail
        go_meet
        obtain ⟨t, y, e⟩ := Vl.is.iface HVd.out
        exact ⟨t, y, e, rfl, rfl, by rw [← e]; exact HVd.out, HNd⟩
    case rest =>
    obtain ⟨tM, yM, rfl, rfl, rfl, hva, hb9⟩ := hcut
    have LM := Lib.hid hva
    clear hva KD e0 e1 e2 e3
    have FB40 := Lib.hid (FB38.out.trans (hb9.mono FB38.out.size))
    have FP40 := Lib.hid (FP38.out.next hb9)
    have FU40 := Lib.hid (FU38.out.next hb9)
    have FY40 := Lib.hid (FY38.out.next hb9)
    clear FB38 FP38 FU38 FY38
    clear hb9
    generalize wc = w40 at *
    have QP := Lib.hid (plain_goodS E.out.pk1 E.out.fk1 w40 LM.out)
    have hQl := lt_of_block FY40.out.blk
    go_wp2_with fail
    refine QP.out.mono ?_
    rintro e wq ⟨Aq, cq, rfl, hsq, hb9⟩
    have hsQ : Hid (Pls.sits wq (fun b => b ≠ Q ∧ b < wq.heap.size) lk1 Aq) := Lib.hid (hsq.keep (fun b o h => rfl) (fun b h => ⟨by have := h.1; omega, h.2⟩))
    clear hsq hQl QP LM
    have FB41 := Lib.hid (FB40.out.trans (hb9.mono FB40.out.size))
    have FP41 := Lib.hid (FP40.out.next hb9)
    have FU41 := Lib.hid (FU40.out.next hb9)
    have FY41 := Lib.hid (FY40.out.next hb9)
    clear FB40 FP40 FU40 FY40
    clear hb9
    obtain ⟨k0, k1, k2, k3⟩ := (FY41.out.pat E.out.pk.size).cells
    obtain ⟨f0, f1, f2, f3⟩ := FY41.out.free
    go_wp2
    go_roundw
    case rel => exact ⟨k + 1, lk1, Aq, cq, by omega, by go_num, E.out.eq1, all_set FY41.out hsQ.out, by rw [HQ.out]; exact below_set4Q (by rw [← HQ.out]; exact FB41.out) _ _ _ _⟩
    case measure => simp [intOf]; omega
  · have hlk : lk = ps := by rw [HLK.out, List.take_of_length_le (by omega)]
    subst hlk
    have QE := Lib.hid (law2_Eq (pL lk) Aa A ca c wr LP0.out.at_.1 (LY0.out.pat G.out.p.size).lies LP0.out.lies)
    obtain ⟨k0, k1, k2, k3⟩ := (LY0.out.pat G.out.p.size).cells
    obtain ⟨p0, p1, p2, p3⟩ := LP0.out.cells
    unfold pL Pl.arg at QE
    go_wp2_with fail
    refine QE.out.mono ?_
    rintro e w9 ⟨rfl, hb9⟩
    have HZ := Lib.hid (FB30.out.trans ((LB0.out.trans (hb9.mono LB0.out.size)).mono FB30.out.size))
    clear hb9 QE k0 k1 k2 k3 p0 p1 p2 p3
    go_wp2
    go_ret
    exact ⟨rfl, HZ.out⟩
end Go.Proofs.YtcldbjgikkfnbaaGreatDoor
