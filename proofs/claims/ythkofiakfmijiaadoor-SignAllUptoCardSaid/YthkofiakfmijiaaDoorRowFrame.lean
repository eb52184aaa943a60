/-
  A row's last lines: arguments read again behind new memory; the library's variables that a row lists. Conditions: none.
-/
import Derived.Test.YthkofiakfmijiaaDoorRows
import Derived.Test.YthkofiakfmijiaaDoorRds
import Derived.ProofKit
import Derived.OpenShut
import Derived.Carry
import Derived.Deep.DeepHandedRow
import Derived.Stop.LaidErr
import Derived.Lib.SmallJoins
namespace Go.Proofs.YthkofiakfmijiaaDoor
open Go.RowKit Go.WideShapes Go.ChangeShapes Go.ChangeAt Go.Joins
set_option linter.unusedVariables false

section
variable {H : Type} {enc : TypeId × Value → H} {P : Program}
theorem trodAll_stays (hl : laidOutB P = true) {W W' : World} {sp : Nat → Bool} (hb : Below W.heap.size W W') : ∀ {ts : List TypeId} {vs : List Value} {ds : List (DataW H)} {ps : List MemPlace},
    ts.all (fun t => P.readableRec t && decide (t < P.types.size)) = true → DataW.TrodAll enc P W 0 (fun _ => true) true ts vs ds ps → (∀ p ∈ ps, p.block < W.heap.size) → (∀ p ∈ ps, sp p.block = true) → DataW.TrodAll enc P W' 0 sp true ts vs ds ps
  | [], vs, ds, ps, _, h, _, _ => by
    obtain ⟨rfl, rfl, rfl⟩ := trodAll_nil h
    exact trodAll_mk0
  | t :: ts, vs, ds, ps, hr, h, hlt, hsp => by
    obtain ⟨v, vs', d, ds', p, q, rfl, rfl, rfl, hd, hds⟩ := trodAll_cons h
    simp only [List.all_cons, Bool.and_eq_true, decide_eq_true_eq] at hr
    refine trodAll_cons_mk (WideElems.Trod_stays hl hr.1.1 hr.1.2 hd (fun x hx => hb.same (hlt x (by simp [hx]))) (fun x hx => hsp x (by simp [hx]))) (trodAll_stays hl hb hr.2 hds (fun x hx => hlt x (by simp [hx])) (fun x hx => hsp x (by simp [hx])))
/-- A slice of numbers, opened: nil let in. -/
theorem open_rd {t e : TypeId} {w : World} {spare : Nat → Bool} {held : Bool} {fuel : Nat} {v : Value} {x : DataW H × List MemPlace} (ht : P.underlying t = some (.slice e)) (he : P.underlying e = some (.int .i64)) (hc : P.cellsOf e = 1)
    (h : DataW.trod enc P w 0 spare held fuel t [v] = some x) (hlt : ∀ p ∈ x.2, p.block < w.heap.size) :
    ∃ (A : Option Addr) (l : List Int) (c : Nat), v = .slice A l.length c ∧ RdI w w.heap.size A l ∧ (A = none → l = [] ∧ c = 0) ∧ (∃ sp, x.1 = .slice (lits .i64 l) sp ∨ (x.1 = .nil ∧ l = [])) ∧ ∀ n ∈ l, (Lit.int .i64 n).wf = true := by
  rcases open_ints ht he hc h with ⟨hcs, hx⟩ | ⟨a, len, cap, zs, hcs, _, hle, hm, hz, hx, hcell, hw⟩
  · simp only [List.cons.injEq, and_true] at hcs
    subst hcs hx
    exact ⟨none, [], 0, rfl, Rd.nil, fun _ => ⟨rfl, rfl⟩, ⟨[], .inr ⟨rfl, rfl⟩⟩, fun n hn => by cases hn⟩
  · simp only [List.cons.injEq, and_true] at hcs
    subst hcs hx
    have hlen : len ≤ zs.length := by rw [hz]; split <;> omega
    refine ⟨some a, zs.take len, cap, by rw [List.length_take, Nat.min_eq_left hlen], ?_, (fun h => by cases h), ⟨lits .i64 (zs.drop len), .inl rfl⟩, fun n hn => hw n (List.mem_of_mem_take hn)⟩
    intro hn
    have hpos : 0 < zs.length := by
      simp at hn; omega
    refine ⟨a, rfl, ?_, fun j u hj => ?_⟩
    · have : MemPlace.cell a.block a.off ∈ MemPlace.row a zs.length ∨ ∃ p ∈ MemPlace.row a zs.length, p.block = a.block := by
        right
        cases hzl : zs.length with
        | zero => omega
        | succ n => exact ⟨_, List.mem_map.2 ⟨0, by simp, rfl⟩, by first | rfl | simp [MemPlace.block] ⟩
      rcases this with h1 | ⟨p, hp, hpb⟩
      · exact hlt _ h1
      · rw [← hpb]; exact hlt p hp
    · rw [List.getElem?_map] at hj
      have hjl : j < len ∧ j < zs.length := by
        rcases Nat.lt_or_ge j (zs.take len).length with h1 | h1
        · simp at h1; omega
        · rw [List.getElem?_eq_none h1] at hj; cases hj
      rw [List.getElem?_take_of_lt hjl.1, List.getElem?_eq_getElem hjl.2] at hj
      simp only [Option.map_some, Option.some.injEq] at hj
      subst hj
      rw [hcell j hjl.2]
      simp [vI, List.getD, hjl.2]
end
theorem lits_length {k : IntKind} (l : List Int) {H : Type} : (lits (H := H) k l).length = l.length := by simp [lits]
end Go.Proofs.YthkofiakfmijiaaDoor
