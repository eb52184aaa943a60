/-
  What is proved: the card of 'espalierlaw3.SignOrder' (Rows.SignOrderCardSaid): for every input it returns true and changes nothing that was there. Conditions: none beyond the row's own.
-/
import Derived.Test.YthkofiakfmijiaaDoorSignRow
import Derived.Test.YthkofiakfmijiaaDoorLawOrder
import Derived.SevenTiedAt
namespace Go.Proofs.YthkofiakfmijiaaDoor.signOrder
open Go.Proofs.YthkofiakfmijiaaDoor Go.ChangeShapes Go.WideShapes Go.ChangeAt Go.RowKit Go.Joins
open Go.ChangeMaps (open_string)
set_option linter.unusedVariables false

set_option maxRecDepth 100000 in
theorem contract (H : Type) (enc : TypeId × Value → H) (W : World) (base : Nat) (args : Array Value) (ds gs : List (DataW H)) (before : List MemPlace)
    (hval : ∀ (j : Nat) t v, Tryd.f5.params[j]? = some t → args[j]? = some v → Value.okWide Tryd.prog W .any base t v)
    (hW : DataW.Whole enc Tryd.prog Tryd.f5.params.toList Rows.signOrderSpec.vars false W args.toList ds gs before)
    (hsz : (DataW.weightsEach Tryd.prog (Tryd.f5.params.toList ++ (OpenSpec.ofChange Rows.signOrderSpec).bare.plain.varTypes Tryd.prog) (ds ++ gs)).all (· ≤ reachBytes) = true)
    (hL : laidMetH Tryd.prog sgList W) (hsh : W.ShapedOpen Tryd.prog) :
    Calls Tryd.prog 5 args W fun e W' => ∃ v, e = .returned v ∧ Rows.signOrderSpec.post enc Tryd.prog Tryd.f5 false true false false W args v W' := by
  have hW' := hW
  have hlt : ∀ p ∈ before, p.block < W.heap.size := fun p hp => hW.lt p hp
  obtain ⟨p, q, hA0, hV, rfl, hfz, hnd⟩ := hW
  have hA : DataW.TrodAll enc Tryd.prog W 0 (fun _ => true) true Tryd.f5.params.toList args.toList ds p := hA0
  have hpp : Tryd.f5.params = #[27, 27, 27, 3] := Tryd.params5
  rw [hpp] at hA hval hsz
  obtain ⟨v0, vs0, d0, ds0, p0, q0, hargs, rfl, rfl, h0, r0⟩ := trodAll_cons hA
  obtain ⟨v1, vs1, d1, ds1, p1, q1, rfl, rfl, rfl, h1, r1⟩ := trodAll_cons r0
  obtain ⟨v2, vs2, d2, ds2, p2, q2, rfl, rfl, rfl, h2, r2⟩ := trodAll_cons r1
  obtain ⟨v3, vs3, d3, ds3, p3, q3, rfl, rfl, rfl, h3, r3⟩ := trodAll_cons r2
  obtain ⟨rfl, rfl, rfl⟩ := trodAll_nil r3
  obtain rfl : args = #[v0, v1, v2, v3] := by cases args; simp_all
  obtain ⟨rfl, rfl⟩ := trodVars_none hV
  have hAll := hA0
  have hApp := hsz
  have m0 : ∀ p ∈ p0, p.block < W.heap.size := fun p hp => hlt p (List.mem_append_left _ (List.mem_append_left _ hp))
  have m1 : ∀ p ∈ p1, p.block < W.heap.size := fun p hp => hlt p (List.mem_append_left _ (List.mem_append_right _ (List.mem_append_left _ hp)))
  have m2 : ∀ p ∈ p2, p.block < W.heap.size := fun p hp => hlt p (List.mem_append_left _ (List.mem_append_right _ (List.mem_append_right _ (List.mem_append_left _ hp))))
  have m3 : ∀ p ∈ p3, p.block < W.heap.size := fun p hp => hlt p (List.mem_append_left _ (List.mem_append_right _ (List.mem_append_right _ (List.mem_append_right _ (List.mem_append_left _ hp)))))
  obtain ⟨u0, w0, x0, y0, n0, rfl, rfl, rfl, hx0, hy0⟩ := open_agg2 Tryd.underlying27 (by kernel_rfl) c27 (hval 0 27 _ rfl rfl) h0
  obtain ⟨f0, e0, rfl, _⟩ := DataW.trod_string Tryd.underlying9 hx0
  simp only [List.cons.injEq, and_true] at e0
  subst e0
  obtain ⟨A0, l0, c0, rfl, hR0, hnil0, ⟨sp0, hs0⟩, hw0⟩ := open_rd Tryd.underlying25 Tryd.underlying3 c3 hy0 (fun p hp => m0 p (List.mem_append_right _ hp))
  obtain ⟨g0, b0⟩ := place_sized hApp (j := 0) (bytes := f0.data.toList) (d := y0.1) rfl rfl hs0
  obtain ⟨u1, w1, x1, y1, n1, rfl, rfl, rfl, hx1, hy1⟩ := open_agg2 Tryd.underlying27 (by kernel_rfl) c27 (hval 1 27 _ rfl rfl) h1
  obtain ⟨f1, e1, rfl, _⟩ := DataW.trod_string Tryd.underlying9 hx1
  simp only [List.cons.injEq, and_true] at e1
  subst e1
  obtain ⟨A1, l1, c1, rfl, hR1, hA1, ⟨sp1, hs1⟩, hw1⟩ := open_rd Tryd.underlying25 Tryd.underlying3 c3 hy1 (fun p hp => m1 p (List.mem_append_right _ hp))
  obtain ⟨g1, b1⟩ := place_sized hApp (j := 1) (bytes := f1.data.toList) (d := y1.1) rfl rfl hs1
  obtain ⟨u2, w2, x2, y2, n2, rfl, rfl, rfl, hx2, hy2⟩ := open_agg2 Tryd.underlying27 (by kernel_rfl) c27 (hval 2 27 _ rfl rfl) h2
  obtain ⟨f2, e2, rfl, _⟩ := DataW.trod_string Tryd.underlying9 hx2
  simp only [List.cons.injEq, and_true] at e2
  subst e2
  obtain ⟨A2, l2, c2, rfl, hR2, hA2, ⟨sp2, hs2⟩, hw2⟩ := open_rd Tryd.underlying25 Tryd.underlying3 c3 hy2 (fun p hp => m2 p (List.mem_append_right _ hp))
  obtain ⟨g2, b2⟩ := place_sized hApp (j := 2) (bytes := f2.data.toList) (d := y2.1) rfl rfl hs2
  obtain ⟨k3, rfl, rfl, rfl, _⟩ := open_int Tryd.underlying3 (hval 3 3 _ rfl rfl) h3
  refine (law_SignOrder f0 f1 f2 A0 A1 A2 l0 l1 l2 c0 c1 c2 k3 W b0 (by omega) (by omega) hnil0 hR0 hR1 hR2 (sgOf hL hsh)).mono fun e W' ⟨he, hg⟩ => ?_
  subst he
  refine ⟨_, rfl, post_of_below (pa := _) (pv := []) hW' (fun _ _ _ => trodAll_cons_mk (shut_bool Tryd.underlying4 _) trodAll_mk0) (fun sp hsp => trodAll_stays sgLaid hg (by kernel_rfl) hAll (fun x hx => hlt x (List.mem_append_left _ hx)) (fun x hx => hsp x (List.mem_append_left _ hx))) (fun _ _ => rfl) rfl hg (ok_one (by kernel_rfl) rfl (okWide_bool_mk Tryd.underlying4 _))⟩

def wit : Array Value := #[.agg #[.string ⟨#[]⟩, .slice none 0 0], .agg #[.string ⟨#[]⟩, .slice none 0 0], .agg #[.string ⟨#[]⟩, .slice none 0 0], .int .i64 0]
theorem laid_met (os : Os) : laidMet Tryd.prog Rows.signOrderRow.laid ((sgWorld os).forCall (fun _ _ => 0) ⟨#[], wit, []⟩).memory :=
  laidMet_of_run' 8 (by kernel_rfl) (by kernel_rfl)
theorem reads (os : Os) {H : Type} (enc : TypeId × Value → H) : ∃ places, DataW.whole enc Tryd.prog ((sgWorld os).forCall (fun _ _ => 0) ⟨#[], wit, []⟩).memory Tryd.f5.params.toList Rows.signOrderSpec.vars false wit.toList 8 = some ([.agg [.lit (.string []), .nil], .agg [.lit (.string []), .nil], .agg [.lit (.string []), .nil], .lit (.int .i64 0)], [], places) :=
  ⟨[], by kernel_rfl⟩
set_option maxRecDepth 100000 in
theorem lifted (os : Os) (started : os.Started) (H : Type) (enc : TypeId × Value → H) (F : Stop.Interp) :
    ReturnsInHanded {} Tryd.checked os 5 .any ((OpenSpec.ofChange Rows.signOrderSpec).preRow enc Tryd.prog Tryd.f5 Rows.signOrderRow.domain false Rows.signOrderRow.laid) (((OpenSpec.ofChange Rows.signOrderSpec).at F).post enc Tryd.prog Tryd.f5 false true false false) := by
  obtain ⟨places, hx⟩ := reads os enc
  refine returnsInHanded_of_row (C := Tryd.checked) (s := OpenSpec.ofChange Rows.signOrderSpec) sgOwn started (by kernel_rfl) Tryd.func5
    (witness_row_at (enc := enc) (C := Tryd.checked) false (sgWorld os) wit rfl (by kernel_rfl) (by kernel_rfl) (by kernel_rfl)
      (OpenSpec.preRow_of_cond 8 hx (by kernel_rfl) (fun k hk => by cases hk) (by kernel_rfl) (laid_met os))) ?_
  intro W base args ds gs before hval hW _ _ hsz hL hsh _
  exact contract H enc W base args ds gs before hval hW hsz hL hsh
theorem said : Rows.SignOrderSaid :=
  OpenClaim.holds_of_cond 5 Tryd.f5 rfl rfl rfl rfl rfl rfl rfl ⟨rfl, rfl, rfl, rfl, rfl⟩ rfl rfl rfl rfl rfl (by kernel_rfl) Tryd.func5 (by kernel_rfl)
    (of_decide_eq_true (by kernel_rfl)) (by unfold Func.isWrapper; first | (rw [if_pos (by decide +kernel)]; kernel_rfl) | (rw [if_neg (by decide +kernel)]; exact ⟨rfl, rfl⟩))
    (fun os started H enc _ F => by rw [OpenClaim.pre_eq_preRow]; exact lifted os started H enc F)
theorem plain (f : FuncId) (fn : Func) (hf : Tryd.pinned.checked.prog.funcNamed "espalier/espalierlaw3.SignOrder" = some f) (hfn : Tryd.pinned.checked.prog.funcs[f]? = some fn) :
    false = Tryd.pinned.checked.prog.looks [] ∧ ∀ (j : Nat) t, fn.params[j]? = some t → Tryd.pinned.checked.prog.wantsStandIn t = false := by
  obtain rfl : f = 5 := Option.some.inj ((show Tryd.prog.funcNamed "espalier/espalierlaw3.SignOrder" = some 5 by kernel_rfl).symm.trans hf) |>.symm
  obtain rfl : fn = Tryd.f5 := (Option.some.inj (Tryd.func5.symm.trans hfn)).symm
  refine ⟨by kernel_rfl, fun j t ht => ?_⟩
  rw [Tryd.params5] at ht
  have hm := Array.mem_of_getElem? ht
  simp at hm
  rcases hm with rfl | rfl
  · exact (show Tryd.prog.wantsStandIn 27 = false by kernel_rfl)
  · exact (show Tryd.prog.wantsStandIn 3 = false by kernel_rfl)
/-- ████ THE CARD ████ -/
theorem proved : Rows.SignOrderCardSaid :=
  Claim7.holds_tied_plain_at .later [] _ _ _ _ said (fun _ h => by cases h) (by kernel_rfl) (fun _ h => by cases h) signOrder_row_tie rfl ⟨rfl, rfl⟩ (by kernel_rfl) rfl plain (by kernel_rfl)
end Go.Proofs.YthkofiakfmijiaaDoor.signOrder
