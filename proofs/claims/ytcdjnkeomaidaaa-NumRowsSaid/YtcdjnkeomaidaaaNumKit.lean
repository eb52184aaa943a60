/-
  num.Kit: a walk. Conditions: none.
-/
import Derived.Test.YtcdjnkeomaidaaaNumRowsW
import Derived.Test.YtcdjnkeomaidaaaKitOf
namespace Go.Proofs.Ytcdjnkeomaidaaa
open Go.RowKit
set_option linter.unusedVariables false

theorem num_kitB : kitB ⟨#[110, 117, 109]⟩ numRows = true := by kernel_rfl
theorem num_Kit (w : World) : Calls Try.prog 14 #[] w (KitPost ⟨#[110, 117, 109]⟩ 26 numRows w) := by
  have hr := Lib.hid (num_rows w)
  go_enter Try.func14, Try.ntmps14
  go_wp2_with fail
  refine hr.out.mono ?_
  rintro e w1 ⟨v, ts, rfl, hown, hts, hb⟩
  have HT := Lib.hid hts
  have HB := Lib.hid hb
  obtain ⟨A, c, rfl, hA⟩ := hown.lies
  have HA := Lib.hid hA
  clear hts hb hown hA
  go_wp2_with fail
  refine (kit_new_of num_kitB 26 ts HT.out A c w1 (HA.out.keep (fun _ _ _ => rfl) (fun b hb => hb.2))).mono ?_
  rintro e w2 ⟨M, v, us, hM, rfl, hK, hu, hb2⟩
  have H1 := Lib.hid hK
  have H2 := Lib.hid hu
  have H3 := Lib.hid (HB.out.trans (hb2.mono HB.out.size))
  have H4 := Lib.hid (Nat.le_trans HB.out.size hM)
  clear hM hK hu hb2
  go_wp2
  go_ret
  exact ⟨M, v, us, H4.out, rfl, H1.out, H2.out, H3.out⟩
end Go.Proofs.Ytcdjnkeomaidaaa
