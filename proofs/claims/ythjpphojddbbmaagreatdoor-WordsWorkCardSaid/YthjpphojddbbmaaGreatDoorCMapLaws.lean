/-
  Laws on maps with text keys whose entries are written out: a literal's entries laid one by one, a look-up. Over any program. Conditions: none.
-/
import Derived.Test.YthjpphojddbbmaaGreatDoorCBase
import Derived.MapKept
namespace Go.Proofs.YthjpphojddbbmaaGreatDoor
open Go.RowKit

section
variable {P : Program}
theorem run_check_str {K : TypeId} (hK : P.underlying K = some .string) (em : Bool) (s : ByteArray) (w : World) : (Instr.checkKey em 10000 K (.string s)).run P w = .ok () w := by
  have h : ∀ n, (Instr.checkKey em (n + 1) K (.string s)).run P w = .ok () w := fun n => by simp [Instr.checkKey, run_underlying hK]
  exact h 9999
theorem push_set {α : Type} (a : Array α) (x y : α) : (a.push x).setIfInBounds a.size y = a.push y := by
  apply Array.ext'
  simp
theorem alloc_set (w : World) (o o' : Obj) : { w.alloc o with heap := (w.alloc o).heap.setIfInBounds w.heap.size o' } = w.alloc o' := by
  show { w with heap := (w.heap.push o).setIfInBounds w.heap.size o' } = { w with heap := w.heap.push o' }
  rw [push_set]
theorem find_str {K : TypeId} (hK : P.underlying K = some .string) {s : ByteArray} {l : List MapEntry} {a : Option (Nat × Value)} (hf : Instr.findNow .string (.string s) l 0 = some a) (w : World) :
    (Instr.findKey K (.string s) l).run P w = .ok a w := by
  simp [Instr.findKey, run_underlying hK, Result.andThen, hf]
theorem get_map {w : World} {r : Nat} {es : Array MapEntry} {c : Nat} (hb : w.heap[r]? = some (.map es c)) : (getObj r).run P w = .ok (.map es c) w := by
  simp [getObj, Sem.run, hb]
theorem set_map {w : World} {r : Nat} {es : Array MapEntry} {c : Nat} (o : Obj) (hb : w.heap[r]? = some (.map es c)) : (setObj r o).run P w = .ok () { w with heap := w.heap.setIfInBounds r o } := by
  simp [setObj, Sem.run, hb]
theorem run_insert_new {T K E : TypeId} (hT : P.underlying T = some (.map K E)) (hK : P.underlying K = some .string) (es : Array MapEntry) (c : Nat) (s : ByteArray) (v : Value) (w : World)
    (hf : Instr.findNow .string (.string s) es.toList 0 = some none) :
    (Instr.mapUpdate T (.map (some w.heap.size)) (.string s) v).run P (w.alloc (.map es c)) = .ok () (w.alloc (.map (es.push ⟨.string s, v, c⟩) (c + 1))) := by
  have hb : (w.alloc (.map es c)).heap[w.heap.size]? = some (.map es c) := heap_alloc_new w _
  unfold Instr.mapUpdate
  simp only [Sem.run_bind, run_underlying hT, Result.andThen_ok, get_map hb, run_check_str hK, find_str hK hf, set_map _ hb, alloc_set]
/-- A literal's entry, laid into the newest block. -/
theorem wpList_insert_new {ops : Array Oper} {rest : List Oper} {o : Oper} {a : Act} {Q : Exit → Act → World → Prop} (w : World) (hgd : o.guard = none) (T K E : TypeId) (m k v : Operand) (ho : o.op = .insert T m k v)
    (hT : P.underlying T = some (.map K E)) (hK : P.underlying K = some .string) (es : Array MapEntry) (c : Nat) (s : ByteArray) (hm : a.eval m = .map (some w.heap.size)) (hk : a.eval k = .string s)
    (hf : Instr.findNow .string (.string s) es.toList 0 = some none)
    (h : wpList P ops Q rest (a.put o.dst undef) (w.alloc (.map (es.push ⟨.string s, a.eval v, c⟩) (c + 1)))) : wpList P ops Q (o :: rest) a (w.alloc (.map es c)) :=
  wpList_plain hgd fun K' hK' => by
    unfold Oper.wp execOp
    simp only [ho, hm, hk, Sem.run_bind, run_insert_new hT hK es c s (a.eval v) w hf, Result.andThen_ok, Sem.run_pure, Oper.upon]
    exact hK' _ _ h
/-- A look-up, with 'ok', in a map whose entries are known. -/
theorem run_lookup_hit {T K E : TypeId} (hT : P.underlying T = some (.map K E)) (hK : P.underlying K = some .string) {r : Nat} {es : Array MapEntry} {c : Nat} {s : ByteArray} {i : Nat} {v : Value} {w : World}
    (hb : w.heap[r]? = some (.map es c)) (hf : Instr.findNow .string (.string s) es.toList 0 = some (some (i, v))) :
    (Instr.lookup T (.map (some r)) (.string s) true).run P w = .ok (.tuple #[v, .bool true]) w := by
  unfold Instr.lookup
  simp [Sem.run_bind, run_underlying hT, Result.andThen_ok, get_map hb, run_check_str hK, find_str hK hf]
theorem run_lookup_miss {T K E : TypeId} (hT : P.underlying T = some (.map K E)) (hK : P.underlying K = some .string) {r : Nat} {es : Array MapEntry} {c : Nat} {s : ByteArray} {z : Value} {w : World}
    (hz : (zeroValue E).run P w = .ok z w) (hb : w.heap[r]? = some (.map es c)) (hf : Instr.findNow .string (.string s) es.toList 0 = some none) :
    (Instr.lookup T (.map (some r)) (.string s) true).run P w = .ok (.tuple #[z, .bool false]) w := by
  unfold Instr.lookup
  simp [Sem.run_bind, run_underlying hT, Result.andThen_ok, get_map hb, run_check_str hK, find_str hK hf, hz]
end
end Go.Proofs.YthjpphojddbbmaaGreatDoor
