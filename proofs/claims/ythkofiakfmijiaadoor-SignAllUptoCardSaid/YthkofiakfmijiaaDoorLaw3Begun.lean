/-
  espalierlaw3.begun: the calls whose answers the document fixes. Conditions: the library's variables are laid.
-/
import Derived.Test.YthkofiakfmijiaaDoorSignNames
import Derived.Test.YthkofiakfmijiaaDoorSignCompare
namespace Go.Proofs.YthkofiakfmijiaaDoor
open Go.RowKit
set_option linter.unusedVariables false

theorem v_kind : kindV ⟨#[110, 117, 109, 46, 97, 100, 100]⟩ = (⟨#[110, 117, 109]⟩, ⟨#[97, 100, 100]⟩, true) := by kernel_rfl
theorem v_read : readPl ⟨#[102, 58, 48, 46, 49, 50]⟩ = some (⟨#[102]⟩, [0, 12]) := by kernel_rfl
theorem v_path : readP [48, 49] = none := by kernel_rfl
theorem v_names : namesV ⟨#[97, 32, 98]⟩ = some [⟨#[97]⟩, ⟨#[98]⟩] := by kernel_rfl
theorem v_use : useB ⟨#[54, 52]⟩ = true := by kernel_rfl
theorem v_use2 : useB ⟨#[54, 53]⟩ = false := by kernel_rfl
theorem v_name : nameB ⟨#[95]⟩ = true := by kernel_rfl
theorem v_word : wordB ⟨#[95]⟩ = false := by kernel_rfl
theorem v_cmp : placeC (plL ⟨#[102]⟩ []) (plL ⟨#[]⟩ []) = 1 := by kernel_rfl
theorem v_place : placeB ⟨#[102]⟩ [0, 12] = true := by kernel_rfl
theorem v_text : placeTextV ⟨#[102]⟩ [0, 12] = (⟨#[102, 58, 48, 46, 49, 50]⟩, 0) := by
  have h0 : Lib.itoa 0 = [48] := by rw [itoa_of (by decide)]; exact Lib.decDigits_one (by decide)
  have h12 : Lib.itoa 12 = [49, 50] := by rw [itoa_of (by decide)]; exact Lib.decDigits_two (by decide) (by decide)
  have ht : pathT [0, 12] = [48, 46, 49, 50] := by
    unfold pathT
    rw [if_neg (by simp), List.map_cons, List.map_cons, List.map_nil, h0, h12]
    kernel_rfl
  unfold placeTextV
  rw [v_place, ht, if_pos rfl, if_neg (by decide)]
  rfl
set_option maxRecDepth 100000 in
set_option maxHeartbeats 4000000 in
theorem law3_begun (w : World) (hS : Sg w) : Calls Tryd.prog 7 #[] w (Bel (.bool true) w) := by
  have HS := Lib.hid hS
  have k1 := Lib.hid (sign_Kind ⟨#[110, 117, 109, 46, 97, 100, 100]⟩ w (by decide))
  clear hS
  go_enter Tryd.func7, Tryd.ntmps7
  go_wp2_with fail
  refine k1.out.mono ?_
  rintro e w1 ⟨rfl, hb1⟩
  rw [v_kind]
  unfold cutT
  have HB1 := Lib.hid hb1
  clear hb1
  have HBa := Lib.hid (HB1.out.trans (((Below.refl w1.heap.size w1).alloc (Nat.le_refl _) (.cells #[.int .i64 0, .int .i64 12] 3)).mono HB1.out.size))
  have hra : Hid (RdI (w1.alloc (.cells #[.int .i64 0, .int .i64 12] 3)) (w1.alloc (.cells #[.int .i64 0, .int .i64 12] 3)).heap.size (some ⟨w1.heap.size, 0, none⟩) [0, 12]) := Lib.hid
    (Rd.lit (xs := [0, 12].map vI) (heap_alloc_new w1 (.cells #[.int .i64 0, .int .i64 12] 3)) (fun j u hj => by simpa [vI] using hj))
  have k2 := Lib.hid (sign_PlaceText ⟨#[102]⟩ (some ⟨w1.heap.size, 0, none⟩) [0, 12] 2 _ (by decide) (by decide) hra.out (HS.out.below HBa.out))
  rw [v_text] at k2
  go_wp2_with fail
  refine k2.out.mono ?_
  rintro e w2 ⟨rfl, hb2⟩
  have HB2 := Lib.hid (HBa.out.trans (hb2.mono HBa.out.size))
  clear hb2
  have k3 := Lib.hid (sign_ReadPlace ⟨#[102, 58, 48, 46, 49, 50]⟩ w2 (by decide))
  rw [v_read] at k3
  go_wp2_with fail
  refine k3.out.mono ?_
  rintro e w3 ⟨hb3, A, c, rfl, hown⟩
  have HB3 := Lib.hid (HB2.out.trans (hb3.mono HB2.out.size))
  have HR3 := Lib.hid (Rd.of_own hown)
  clear hb3 hown
  unfold placeV
  have k4 : Hid (∀ W, Calls Tryd.prog 20 #[.string ⟨#[48, 49]⟩] W (RP none W)) := Lib.hid fun W => by have := sign_ReadPath ⟨#[48, 49]⟩ W (by decide); rw [show (⟨#[48, 49]⟩ : ByteArray).data.toList = [48, 49] from rfl, v_path] at this; exact this
  go_wp2_with fail
  refine (k4.out _).mono ?_
  rintro e w4 ⟨hb4, rfl⟩
  have HBb := Lib.hid (((Below.refl w3.heap.size w3).alloc (Nat.le_refl _) (.cells #[.string ⟨#[102]⟩, .slice A ([0, 12] : List Int).length c] 27)).trans (hb4.mono (by simp)))
  have HX4 := Lib.hid ((hb4.block w3.heap.size (by simp)).trans (heap_alloc_new w3 (.cells #[.string ⟨#[102]⟩, .slice A ([0, 12] : List Int).length c] 27)))
  have hz4 : w3.heap.size < w4.heap.size := by have := hb4.size; simp at this; omega
  have HB4 := Lib.hid (HB3.out.trans (HBb.out.mono HB3.out.size))
  clear hb4
  have k5 := Lib.hid (sign_Names ⟨#[97, 32, 98]⟩ w4 (by decide) (HS.out.below HB4.out))
  rw [v_names] at k5
  go_wp2_with fail
  refine k5.out.mono ?_
  rintro e w5 ⟨hb5, A5, c5, rfl, _⟩
  have HX5 := Lib.hid ((hb5.block w3.heap.size hz4).trans HX4.out)
  have hz5 : w3.heap.size < w5.heap.size := by have := hb5.size; omega
  have HB5 := Lib.hid (HB4.out.trans (hb5.mono HB4.out.size))
  have HBc := Lib.hid (HBb.out.trans (hb5.mono HBb.out.size))
  clear hb5
  have g5 : w5.cell? ⟨w3.heap.size, 0, none⟩ = some (.string ⟨#[102]⟩) := by simp [World.cell?, HX5.out]
  have g6 : w5.cell? ⟨w3.heap.size, 1, none⟩ = some (.slice A ([0, 12] : List Int).length c) := by simp [World.cell?, HX5.out]
  have HBc5 := HBc
  clear HBc
  have k6 := Lib.hid (sign_Use ⟨#[54, 52]⟩ w5 (by decide))
  rw [v_use] at k6
  go_wp2_with fail
  refine k6.out.mono ?_
  rintro e w6 ⟨rfl, hb⟩
  have HX6 := Lib.hid ((hb.block w3.heap.size hz5).trans HX5.out)
  have hz6 : w3.heap.size < w6.heap.size := by have := hb.size; omega
  have HB6 := Lib.hid (HB5.out.trans (hb.mono HB5.out.size))
  have HBc6 := Lib.hid (HBc5.out.trans (hb.mono HBc5.out.size))
  clear hb
  clear g5 g6
  have k7 := Lib.hid (sign_Use ⟨#[54, 53]⟩ w6 (by decide))
  rw [v_use2] at k7
  go_wp2_with fail
  refine k7.out.mono ?_
  rintro e w7 ⟨rfl, hb⟩
  have HX7 := Lib.hid ((hb.block w3.heap.size hz6).trans HX6.out)
  have hz7 : w3.heap.size < w7.heap.size := by have := hb.size; omega
  have HB7 := Lib.hid (HB6.out.trans (hb.mono HB6.out.size))
  have HBc7 := Lib.hid (HBc6.out.trans (hb.mono HBc6.out.size))
  clear hb
  have k8 := Lib.hid (sign_Name ⟨#[95]⟩ w7 (by decide))
  rw [v_name] at k8
  go_wp2_with fail
  refine k8.out.mono ?_
  rintro e w8 ⟨rfl, hb⟩
  have HX8 := Lib.hid ((hb.block w3.heap.size hz7).trans HX7.out)
  have hz8 : w3.heap.size < w8.heap.size := by have := hb.size; omega
  have HB8 := Lib.hid (HB7.out.trans (hb.mono HB7.out.size))
  have HBc8 := Lib.hid (HBc7.out.trans (hb.mono HBc7.out.size))
  clear hb
  have k9 := Lib.hid (sign_Word ⟨#[95]⟩ w8 (by decide))
  rw [v_word] at k9
  go_wp2_with fail
  refine k9.out.mono ?_
  rintro e w9 ⟨rfl, hb⟩
  have HX9 := Lib.hid ((hb.block w3.heap.size hz8).trans HX8.out)
  have hz9 : w3.heap.size < w9.heap.size := by have := hb.size; omega
  have HB9 := Lib.hid (HB8.out.trans (hb.mono HB8.out.size))
  have HBc9 := Lib.hid (HBc8.out.trans (hb.mono HBc8.out.size))
  clear hb
  have k10 := Lib.hid (sign_Compare ⟨#[102]⟩ ⟨#[]⟩ none none [] [] 0 0 w9 (by decide) (by decide) Rd.nil Rd.nil)
  rw [v_cmp] at k10
  go_wp2_with fail
  refine k10.out.mono ?_
  rintro e w10 ⟨rfl, hb⟩
  have HX10 := Lib.hid ((hb.block w3.heap.size hz9).trans HX9.out)
  have hz10 : w3.heap.size < w10.heap.size := by have := hb.size; omega
  have HB10 := Lib.hid (HB9.out.trans (hb.mono HB9.out.size))
  have HBc10 := Lib.hid (HBc9.out.trans (hb.mono HBc9.out.size))
  clear hb
  have k11 := Lib.hid (sign_Place ⟨#[102]⟩ A [0, 12] c w10 (by decide) (by decide) (Rd.next HR3.out HBc10.out))
  rw [v_place] at k11
  have g7 : w10.cell? ⟨w3.heap.size, 0, none⟩ = some (.string ⟨#[102]⟩) := by simp [World.cell?, HX10.out]
  have g8 : w10.cell? ⟨w3.heap.size, 1, none⟩ = some (.slice A 2 c) := by simp [World.cell?, HX10.out]
  go_wp2_with fail
  refine k11.out.mono ?_
  rintro e w11 ⟨rfl, hb⟩
  have HB11 := Lib.hid (HB10.out.trans (hb.mono HB10.out.size))
  clear hb
  go_wp2
  go_ret
  exact ⟨rfl, HB11.out⟩
end Go.Proofs.YthkofiakfmijiaaDoor
