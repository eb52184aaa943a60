/-
  What is proved: the card of 'espalierlaw3.SignThere' (Rows.SignThereCardSaid): for every place and every text it returns true and changes nothing that was there. Conditions: none beyond the row's own.
-/
import Derived.Test.YthkofiakfmijiaaDoorSignRow
import Derived.Test.YthkofiakfmijiaaDoorLawThere
import Derived.SevenTiedAt
namespace Go.Proofs.YthkofiakfmijiaaDoor.signThere
open Go.Proofs.YthkofiakfmijiaaDoor Go.ChangeShapes Go.WideShapes Go.ChangeAt Go.RowKit Go.Joins
open Go.ChangeMaps (open_string)
set_option linter.unusedVariables false

set_option maxRecDepth 100000 in
theorem contract (H : Type) (enc : TypeId × Value → H) (W : World) (base : Nat) (args : Array Value) (ds gs : List (DataW H)) (before : List MemPlace)
    (hval : ∀ (j : Nat) t v, Tryd.f4.params[j]? = some t → args[j]? = some v → Value.okWide Tryd.prog W .any base t v)
    (hW : DataW.Whole enc Tryd.prog Tryd.f4.params.toList Rows.signThereSpec.vars false W args.toList ds gs before)
    (hsz : (DataW.weightsEach Tryd.prog (Tryd.f4.params.toList ++ (OpenSpec.ofChange Rows.signThereSpec).bare.plain.varTypes Tryd.prog) (ds ++ gs)).all (· ≤ reachBytes) = true)
    (hL : laidMetH Tryd.prog sgList W) (hsh : W.ShapedOpen Tryd.prog) :
    Calls Tryd.prog 4 args W fun e W' => ∃ v, e = .returned v ∧ Rows.signThereSpec.post enc Tryd.prog Tryd.f4 false true false false W args v W' := by
  have hW' := hW
  have hlt : ∀ p ∈ before, p.block < W.heap.size := fun p hp => hW.lt p hp
  obtain ⟨p, q, hA0, hV, rfl, hfz, hnd⟩ := hW
  have hA : DataW.TrodAll enc Tryd.prog W 0 (fun _ => true) true Tryd.f4.params.toList args.toList ds p := hA0
  have hAll := hA
  have hpp : Tryd.f4.params = #[27, 9] := Tryd.params4
  rw [hpp] at hA hval hsz hAll
  obtain ⟨v0, vs0, d0, ds0, p0, q0, hargs, rfl, rfl, h0, r0⟩ := trodAll_cons hA
  obtain ⟨v1, vs1, d1, ds1, p1, q1, rfl, rfl, rfl, h1, r1⟩ := trodAll_cons r0
  obtain ⟨rfl, rfl, rfl⟩ := trodAll_nil r1
  obtain rfl : args = #[v0, v1] := by cases args; simp_all
  obtain ⟨rfl, rfl⟩ := trodVars_none hV
  clear hA0
  simp only [List.append_nil] at hW' hlt
  obtain ⟨u0, u1, y0, y1, n, rfl, rfl, rfl, hy0, hy1⟩ := open_agg2 Tryd.underlying27 (by kernel_rfl) c27 (hval 0 27 _ rfl rfl) h0
  obtain ⟨f, e0, rfl, hf63⟩ := DataW.trod_string Tryd.underlying9 hy0
  simp only [List.cons.injEq, and_true] at e0
  subst e0
  obtain ⟨A, l, c, rfl, hR, hA1, ⟨sp, hy⟩, hw⟩ := open_rd Tryd.underlying25 Tryd.underlying3 c3 hy1 (fun p hp => hlt p (List.mem_append_left _ (List.mem_append_right _ hp)))
  obtain ⟨s, rfl, rfl, rfl, hs63⟩ := open_string Tryd.underlying9 (hval 1 9 _ rfl rfl) h1
  have hb : f.size ≤ 140737488351232 ∧ l.length ≤ 140737488355328 ∧ s.size ≤ 140737488351232 := by
    rcases hy with hy | ⟨hy, rfl⟩
    · rw [hy] at hsz
      simp [DataW.weightsEach, DataW.weights, Tryd.underlying27, Tryd.underlying25, b3, reachBytes, lits_length] at hsz
      obtain ⟨g1, g2, _, _, g5⟩ := hsz
      have g1 := of_decide_eq_true g1
      have g2 := of_decide_eq_true g2
      have g5 := of_decide_eq_true g5
      refine ⟨?_, ?_, ?_⟩ <;> omega
    · rw [hy] at hsz
      simp [DataW.weightsEach, DataW.weights, Tryd.underlying27, reachBytes] at hsz
      obtain ⟨g1, g5⟩ := hsz
      have g1 := of_decide_eq_true g1
      have g5 := of_decide_eq_true g5
      refine ⟨?_, ?_, ?_⟩
      · omega
      · simp
      · omega
  refine (law_SignThere f A l c s W hb.1 hb.2.1 hb.2.2 hR (sgOf hL hsh)).mono fun e W' ⟨he, hg⟩ => ?_
  subst he
  refine ⟨_, rfl, post_of_below (pa := (DataW.lit (H := H) (Lit.string f.data.toList), ([] : List MemPlace)).2 ++ y1.2 ++ ([] ++ [])) (pv := []) hW' (fun _ _ _ => trodAll_cons_mk (shut_bool Tryd.underlying4 _) trodAll_mk0) (fun sp hsp => ?_) (fun _ _ => rfl) (by simp) hg (ok_one (by kernel_rfl) rfl (okWide_bool_mk Tryd.underlying4 _))⟩
  rw [hpp]
  exact trodAll_stays sgLaid hg (by kernel_rfl) hAll (fun x hx => hlt x (by simpa using hx)) (fun x hx => hsp x (by simpa using hx))

def wit : Array Value := #[.agg #[.string ⟨#[]⟩, .slice none 0 0], .string ⟨#[]⟩]
theorem laid_met (os : Os) : laidMet Tryd.prog Rows.signThereRow.laid ((sgWorld os).forCall (fun _ _ => 0) ⟨#[], wit, []⟩).memory :=
  laidMet_of_run' 8 (by kernel_rfl) (by kernel_rfl)
theorem reads (os : Os) {H : Type} (enc : TypeId × Value → H) : ∃ places, DataW.whole enc Tryd.prog ((sgWorld os).forCall (fun _ _ => 0) ⟨#[], wit, []⟩).memory Tryd.f4.params.toList Rows.signThereSpec.vars false wit.toList 8 = some ([.agg [.lit (.string []), .nil], .lit (.string [])], [], places) :=
  ⟨[], by kernel_rfl⟩
set_option maxRecDepth 100000 in
theorem lifted (os : Os) (started : os.Started) (H : Type) (enc : TypeId × Value → H) (F : Stop.Interp) :
    ReturnsInHanded {} Tryd.checked os 4 .any ((OpenSpec.ofChange Rows.signThereSpec).preRow enc Tryd.prog Tryd.f4 Rows.signThereRow.domain false Rows.signThereRow.laid) (((OpenSpec.ofChange Rows.signThereSpec).at F).post enc Tryd.prog Tryd.f4 false true false false) := by
  obtain ⟨places, hx⟩ := reads os enc
  refine returnsInHanded_of_row (C := Tryd.checked) (s := OpenSpec.ofChange Rows.signThereSpec) sgOwn started (by kernel_rfl) Tryd.func4
    (witness_row_at (enc := enc) (C := Tryd.checked) false (sgWorld os) wit rfl (by kernel_rfl) (by kernel_rfl) (by kernel_rfl)
      (OpenSpec.preRow_of_cond 8 hx (by kernel_rfl) (fun k hk => by cases hk) (by kernel_rfl) (laid_met os))) ?_
  intro W base args ds gs before hval hW _ _ hsz hL hsh _
  exact contract H enc W base args ds gs before hval hW hsz hL hsh
theorem said : Rows.SignThereSaid :=
  OpenClaim.holds_of_cond 4 Tryd.f4 rfl rfl rfl rfl rfl rfl rfl ⟨rfl, rfl, rfl, rfl, rfl⟩ rfl rfl rfl rfl rfl (by kernel_rfl) Tryd.func4 (by kernel_rfl)
    (of_decide_eq_true (by kernel_rfl)) (by unfold Func.isWrapper; first | (rw [if_pos (by decide +kernel)]; kernel_rfl) | (rw [if_neg (by decide +kernel)]; exact ⟨rfl, rfl⟩))
    (fun os started H enc _ F => by rw [OpenClaim.pre_eq_preRow]; exact lifted os started H enc F)
theorem plain (f : FuncId) (fn : Func) (hf : Tryd.pinned.checked.prog.funcNamed "espalier/espalierlaw3.SignThere" = some f) (hfn : Tryd.pinned.checked.prog.funcs[f]? = some fn) :
    false = Tryd.pinned.checked.prog.looks [] ∧ ∀ (j : Nat) t, fn.params[j]? = some t → Tryd.pinned.checked.prog.wantsStandIn t = false := by
  obtain rfl : f = 4 := Option.some.inj ((show Tryd.prog.funcNamed "espalier/espalierlaw3.SignThere" = some 4 by kernel_rfl).symm.trans hf) |>.symm
  obtain rfl : fn = Tryd.f4 := (Option.some.inj (Tryd.func4.symm.trans hfn)).symm
  refine ⟨by kernel_rfl, fun j t ht => ?_⟩
  rw [Tryd.params4] at ht
  have hm := Array.mem_of_getElem? ht
  simp at hm
  rcases hm with rfl | rfl
  · exact (show Tryd.prog.wantsStandIn 27 = false by kernel_rfl)
  · exact (show Tryd.prog.wantsStandIn 9 = false by kernel_rfl)
/-- ████ THE CARD ████ -/
theorem proved : Rows.SignThereCardSaid :=
  Claim7.holds_tied_plain_at .later [] _ _ _ _ said (fun _ h => by cases h) (by kernel_rfl) (fun _ h => by cases h) signThere_row_tie rfl ⟨rfl, rfl⟩ (by kernel_rfl) rfl plain (by kernel_rfl)
end Go.Proofs.YthkofiakfmijiaaDoor.signThere
