/-
  What is proved: the card of 'espalierlaw3.SignParts', second form (Rows.SignPartsUptoCardSaid): for every input of bulk at most 1048576 it returns true and changes nothing that was there. Conditions: none beyond the row's own.
-/
import Derived.Test.YthkofiakfmijiaaDoorSignRow
import Derived.Test.YthkofiakfmijiaaDoorLawParts
import Derived.SevenTiedAt
import Derived.SliceStrings
namespace Go.Proofs.YthkofiakfmijiaaDoor.signParts
open Go.Proofs.YthkofiakfmijiaaDoor Go.ChangeShapes Go.WideShapes Go.ChangeAt Go.RowKit Go.Joins
open Go.ChangeMaps (open_string)
set_option linter.unusedVariables false

theorem bulk_strs {H : Type} (l : List ByteArray) : Rows.uptoBulkAll (strs (H := H) l) = Lib.lens (l.map (·.data.toList)) + l.length := by
  induction l with
  | nil => rfl
  | cons x l ih =>
    have e : strs (H := H) (x :: l) = .lit (.string x.data.toList) :: strs l := rfl
    rw [e]
    simp only [Rows.uptoBulkAll, Rows.uptoBulk, ih, List.map_cons, Lib.lens, List.sum_cons, List.length_cons]
    omega
/-- A slice of texts, opened: nil let in. -/
theorem open_rdS {H : Type} {enc : TypeId × Value → H} {w : World} {spare : Nat → Bool} {held : Bool} {fuel : Nat} {v : Value} {x : DataW H × List MemPlace}
    (h : DataW.trod enc Tryd.prog w 0 spare held fuel 41 [v] = some x) (hlt : ∀ p ∈ x.2, p.block < w.heap.size) :
    ∃ (A : Option Addr) (l : List ByteArray) (c : Nat), v = .slice A l.length c ∧ Rd w w.heap.size A (l.map vS) ∧ (∃ sp, x.1 = .slice (strs l) sp ∨ (x.1 = .nil ∧ l = [])) := by
  rcases open_strings Tryd.underlying41 Tryd.underlying9 c9 h with ⟨hcs, hx⟩ | ⟨a, len, cap, zs, hcs, _, hle, hm, hz, hx, hcell, hw⟩
  · simp only [List.cons.injEq, and_true] at hcs
    subst hcs hx
    exact ⟨none, [], 0, rfl, Rd.nil, [], .inr ⟨rfl, rfl⟩⟩
  · simp only [List.cons.injEq, and_true] at hcs
    subst hcs hx
    have hlen : len ≤ zs.length := by rw [hz]; split <;> omega
    refine ⟨some a, zs.take len, cap, by rw [List.length_take, Nat.min_eq_left hlen], ?_, _, .inl rfl⟩
    intro hn
    have hpos : 0 < zs.length := by
      simp at hn; omega
    refine ⟨a, rfl, ?_, fun j u hj => ?_⟩
    · have : ∃ p ∈ MemPlace.row a zs.length, p.block = a.block := by
        cases hzl : zs.length with
        | zero => omega
        | succ n => exact ⟨_, List.mem_map.2 ⟨0, by simp, rfl⟩, rfl⟩
      obtain ⟨p, hp, hpb⟩ := this
      rw [← hpb]; exact hlt p hp
    · rw [List.getElem?_map] at hj
      have hjl : j < len ∧ j < zs.length := by
        rcases Nat.lt_or_ge j (zs.take len).length with h1 | h1
        · simp at h1; omega
        · rw [List.getElem?_eq_none h1] at hj; cases hj
      rw [List.getElem?_take_of_lt hjl.1, List.getElem?_eq_getElem hjl.2] at hj
      simp only [Option.map_some, Option.some.injEq] at hj
      subst hj
      rw [hcell j hjl.2]
      simp [vS, List.getD, hjl.2]
set_option maxRecDepth 100000 in
theorem contract (H : Type) (enc : TypeId × Value → H) (W : World) (base : Nat) (args : Array Value) (ds gs : List (DataW H)) (before : List MemPlace)
    (hval : ∀ (j : Nat) t v, Tryd.f6.params[j]? = some t → args[j]? = some v → Value.okWide Tryd.prog W .any base t v)
    (hW : DataW.Whole enc Tryd.prog Tryd.f6.params.toList Rows.signPartsSpec.vars false W args.toList ds gs before)
    (hk : Rows.uptoSmall H (ds ++ gs) = true)
    (hL : laidMetH Tryd.prog sgList W) (hsh : W.ShapedOpen Tryd.prog) :
    Calls Tryd.prog 6 args W fun e W' => ∃ v, e = .returned v ∧ Rows.signPartsSpec.post enc Tryd.prog Tryd.f6 false true false false W args v W' := by
  have hW' := hW
  have hlt : ∀ p ∈ before, p.block < W.heap.size := fun p hp => hW.lt p hp
  obtain ⟨p, q, hA0, hV, rfl, hfz, hnd⟩ := hW
  have hA : DataW.TrodAll enc Tryd.prog W 0 (fun _ => true) true Tryd.f6.params.toList args.toList ds p := hA0
  have hpp : Tryd.f6.params = #[9, 9, 41] := Tryd.params6
  rw [hpp] at hA hval
  obtain ⟨v0, vs0, d0, ds0, p0, q0, hargs, rfl, rfl, h0, r0⟩ := trodAll_cons hA
  obtain ⟨v1, vs1, d1, ds1, p1, q1, rfl, rfl, rfl, h1, r1⟩ := trodAll_cons r0
  obtain ⟨v2, vs2, d2, ds2, p2, q2, rfl, rfl, rfl, h2, r2⟩ := trodAll_cons r1
  obtain ⟨rfl, rfl, rfl⟩ := trodAll_nil r2
  obtain rfl : args = #[v0, v1, v2] := by cases args; simp_all
  obtain ⟨rfl, rfl⟩ := trodVars_none hV
  have hAll := hA0
  have m2 : ∀ p ∈ p2, p.block < W.heap.size := fun p hp => hlt p (List.mem_append_left _ (List.mem_append_right _ (List.mem_append_right _ (List.mem_append_left _ hp))))
  obtain ⟨s0, rfl, rfl, rfl, _⟩ := open_string Tryd.underlying9 (hval 0 9 _ rfl rfl) h0
  obtain ⟨s1, rfl, rfl, rfl, _⟩ := open_string Tryd.underlying9 (hval 1 9 _ rfl rfl) h1
  obtain ⟨a2, n2, c2, rfl⟩ := okWide_slice Tryd.underlying41 (hval 2 41 _ rfl rfl)
  obtain ⟨fuel, hf⟩ := h2
  obtain ⟨A2, l2, k2, hv2, hR2, sp2, hy2⟩ := open_rdS (x := (d2, p2)) (by simpa [Value.cells] using hf) m2
  rw [hv2]
  have hb : Rows.uptoBulkAll ([DataW.lit (H := H) (.string s0.data.toList), .lit (.string s1.data.toList), d2] ++ []) ≤ 1048576 := of_decide_eq_true hk
  have hbb : s0.size ≤ 1048576 ∧ s1.size ≤ 1048576 ∧ Lib.lens (l2.map (·.data.toList)) + l2.length ≤ 1048576 := by
    have e0 : s0.data.toList.length = s0.size := (Lib.size_eq s0).symm
    have e1 : s1.data.toList.length = s1.size := (Lib.size_eq s1).symm
    rcases hy2 with hy2 | ⟨hy2, rfl⟩
    · simp only at hy2
      rw [hy2] at hb
      simp only [List.append_nil, Rows.uptoBulkAll, Rows.uptoBulk, bulk_strs] at hb
      omega
    · simp only at hy2
      rw [hy2] at hb
      simp only [List.append_nil, Rows.uptoBulkAll, Rows.uptoBulk] at hb
      refine ⟨by omega, by omega, ?_⟩
      show 0 ≤ _
      exact Nat.zero_le _
  refine (law_SignParts s0 s1 A2 l2 k2 W hbb.1 hbb.2.1 hbb.2.2 hR2 (sgOf hL hsh)).mono fun e W' ⟨he, hg⟩ => ?_
  subst he
  rw [← hv2]
  refine ⟨_, rfl, post_of_below (pa := _) (pv := []) hW' (fun _ _ _ => trodAll_cons_mk (shut_bool Tryd.underlying4 _) trodAll_mk0) (fun sp hsp => trodAll_stays sgLaid hg (by kernel_rfl) hAll (fun x hx => hlt x (List.mem_append_left _ hx)) (fun x hx => hsp x (List.mem_append_left _ hx))) (fun _ _ => rfl) rfl hg (ok_one (by kernel_rfl) rfl (okWide_bool_mk Tryd.underlying4 _))⟩

def wit : Array Value := #[.string ⟨#[]⟩, .string ⟨#[]⟩, .slice none 0 0]
theorem laid_met (os : Os) : laidMet Tryd.prog Rows.signPartsUptoRow.laid ((sgWorld os).forCall (fun _ _ => 0) ⟨#[], wit, []⟩).memory :=
  laidMet_of_run' 8 (by kernel_rfl) (by kernel_rfl)
theorem reads (os : Os) {H : Type} (enc : TypeId × Value → H) : ∃ places, DataW.whole enc Tryd.prog ((sgWorld os).forCall (fun _ _ => 0) ⟨#[], wit, []⟩).memory Tryd.f6.params.toList Rows.signPartsSpec.vars false wit.toList 8 = some ([.lit (.string []), .lit (.string []), .nil], [], places) :=
  ⟨[], by kernel_rfl⟩
set_option maxRecDepth 100000 in
theorem lifted (os : Os) (started : os.Started) (H : Type) (enc : TypeId × Value → H) (F : Stop.Interp) :
    ReturnsInHanded {} Tryd.checked os 6 .any ((Rows.OpenSpec.upto Rows.signPartsSpec).preRow enc Tryd.prog Tryd.f6 Rows.signPartsUptoRow.domain false Rows.signPartsUptoRow.laid) (((Rows.OpenSpec.upto Rows.signPartsSpec).at F).post enc Tryd.prog Tryd.f6 false true false false) := by
  obtain ⟨places, hx⟩ := reads os enc
  refine returnsInHanded_of_row (C := Tryd.checked) (s := Rows.OpenSpec.upto Rows.signPartsSpec) sgOwn started (by kernel_rfl) Tryd.func6
    (witness_row_at (enc := enc) (C := Tryd.checked) false (sgWorld os) wit rfl (by kernel_rfl) (by kernel_rfl) (by kernel_rfl)
      (OpenSpec.preRow_of_cond 8 hx (by kernel_rfl) (fun k hk => by cases hk; kernel_rfl) (by kernel_rfl) (laid_met os))) ?_
  intro W base args ds gs before hval hW _ hcond _ hL hsh _
  exact contract H enc W base args ds gs before hval hW (hcond _ rfl) hL hsh
theorem said : Rows.SignPartsUptoSaid :=
  OpenClaim.holds_of_cond 6 Tryd.f6 rfl rfl rfl rfl rfl rfl rfl ⟨rfl, rfl, rfl, rfl, rfl⟩ rfl rfl rfl rfl rfl (by kernel_rfl) Tryd.func6 (by kernel_rfl)
    (of_decide_eq_true (by kernel_rfl)) (by unfold Func.isWrapper; first | (rw [if_pos (by decide +kernel)]; kernel_rfl) | (rw [if_neg (by decide +kernel)]; exact ⟨rfl, rfl⟩))
    (fun os started H enc _ F => by rw [OpenClaim.pre_eq_preRow]; exact lifted os started H enc F)
theorem plain (f : FuncId) (fn : Func) (hf : Tryd.pinned.checked.prog.funcNamed "espalier/espalierlaw3.SignParts" = some f) (hfn : Tryd.pinned.checked.prog.funcs[f]? = some fn) :
    false = Tryd.pinned.checked.prog.looks [] ∧ ∀ (j : Nat) t, fn.params[j]? = some t → Tryd.pinned.checked.prog.wantsStandIn t = false := by
  obtain rfl : f = 6 := Option.some.inj ((show Tryd.prog.funcNamed "espalier/espalierlaw3.SignParts" = some 6 by kernel_rfl).symm.trans hf) |>.symm
  obtain rfl : fn = Tryd.f6 := (Option.some.inj (Tryd.func6.symm.trans hfn)).symm
  refine ⟨by kernel_rfl, fun j t ht => ?_⟩
  rw [Tryd.params6] at ht
  have hm := Array.mem_of_getElem? ht
  simp at hm
  rcases hm with rfl | rfl
  · exact (show Tryd.prog.wantsStandIn 9 = false by kernel_rfl)
  · exact (show Tryd.prog.wantsStandIn 41 = false by kernel_rfl)
/-- ████ THE SECOND FORM's CARD ████ -/
theorem proved : Rows.SignPartsUptoCardSaid :=
  Claim7.holds_tied_plain_at .later [] _ _ _ _ said (fun _ h => by cases h) (by kernel_rfl) (fun _ h => by cases h) signPartsUpto_row_tie rfl ⟨rfl, rfl⟩ (by kernel_rfl) rfl plain (by kernel_rfl)
end Go.Proofs.YthkofiakfmijiaaDoor.signParts
